/- Package file: truncating, and what is told of a file. -/
import Derived.Test.YtaopiefbejajkaaFileD
import Derived.BigQuiet
set_option linter.unusedSimpArgs false
set_option linter.unusedVariables false
namespace Go.Proofs.Ytaopiefbejajkaa
open Go.RowKit
theorem Sl.own_cut {s : Sl} {k : Nat} (h : k ≤ s.c) {g : Nat} (hg : (⟨s.a, k, k⟩ : Sl).own = some g) : s.own = some g := by
  unfold Sl.own at hg ⊢
  simp only at hg
  split at hg
  · cases hg
  · rw [if_neg (by omega)]; exact hg
/-- What comes of a truncation. -/
def truncE (M : FsM) (s : Nm) (n : Int) : Int := if hasE M s [] = 0 then (if n < 0 ∨ ((((M.files s).getD ([], 0)).1.length : Nat) : Int) < n then 1 else 0) else hasE M s []
def truncM (M : FsM) (s : Nm) (n : Int) : FsM := if truncE M s n = 0 then M.asked.put s ((M.files s).map fun x => (x.1.take n.toNat, min x.2 n.toNat)) else M.asked
set_option maxRecDepth 100000 in
set_option maxHeartbeats 2000000 in
theorem truncate_file (base : Nat → Prop) (p : Nat) (M : FsM) (s : Nm) (n : Int) (w : World) (h : fsAt w base p M) (hM : M.small) (hbase : Fr base w) :
    Calls Try.prog 56 #[.pointer (some ⟨p, 0, none⟩), .string s.1, .int .i64 n] w fun e w' => e = .returned (.int .i64 (truncE M s n)) ∧ fsAt w' base p (truncM M s n) ∧ Zb base w w' := by
  obtain ⟨mb, F, h⟩ := h
  obtain ⟨E, hE⟩ : ∃ E, E = hasE M s [] := ⟨_, rfl⟩
  by_cases h0 : E = 0
  · obtain ⟨r, hr⟩ := hasE_some h (hE.symm.trans h0)
    have hhas := has_yes base p mb F M s [] w h hM (by simp) hbase (hE.symm.trans h0) hr 1 rfl #[.string s.1] rfl
    have hfs := (h.files s)
    rw [hr] at hfs
    have hlen := (h.file s r hr).own.1
    have hcap := (h.file s r hr).own.2.1
    have hsz := (h.file s r hr).size
    have hsf := (h.file s r hr).safe
    have HE := Lib.hid (hE.symm.trans h0)
    have HR := Lib.hid hr
    have HS := Lib.hid hfs
    clear hE h0 h hr hfs
    by_cases hbad : n < 0 ∨ (r.l.length : Int) < n
    · have hT : Hid (truncE M s n = 1) := by unfold Hid truncE; rw [HE.out, if_pos rfl, HS.out]; exact if_pos hbad
      have hb2 : n < 0 ∨ (0 ≤ n ∧ (r.b.n : Int) < n) := by omega
      have HL := Lib.hid hlen
      clear hbad hlen hcap hsz hsf
      rcases hb2 with hb2 | ⟨hb3, hb2⟩
      · have d1 : decide (n < 0) = true := decide_eq_true hb2
        clear hb2
        go_enter Try.func56, Try.ntmps56
        go_wp2_with fail
        refine hhas.mono ?_
        rintro e w1 ⟨rfl, h1, hb1, hz1⟩
        have H1 := Lib.hid h1
        clear hhas h1
        go_wp2_with fail
        go_ret
        refine ⟨by rw [hT.out]; rfl, ⟨mb, F, ?_⟩, hb1⟩
        unfold truncM
        rw [hT.out, if_neg (by decide)]
        exact H1.out
      · have d1 : decide (n < 0) = false := decide_eq_false (by omega)
        have d2 : decide ((r.b.n : Int) < n) = true := decide_eq_true hb2
        clear hb2
        go_enter Try.func56, Try.ntmps56
        go_wp2_with fail
        refine hhas.mono ?_
        rintro e w1 ⟨rfl, h1, hb1, hz1⟩
        have hf := h1.file s r HR.out
        have c0 : w1.cell? ⟨r.blk, 0, none⟩ = some (.slice r.b.a r.b.n r.b.c) := by rw [(cells_known hf.cells).1]; simp [FileR.arr]
        have H1 := Lib.hid h1
        clear hhas h1 hf
        go_wp2_with fail
        go_ret
        refine ⟨by rw [hT.out]; rfl, ⟨mb, F, ?_⟩, hb1⟩
        unfold truncM
        rw [hT.out, if_neg (by decide)]
        exact H1.out
    · have hT : Hid (truncE M s n = 0) := by unfold Hid truncE; rw [HE.out, if_pos rfl, HS.out]; exact if_neg hbad
      obtain ⟨k, rfl⟩ := Int.eq_ofNat_of_zero_le (show 0 ≤ n by omega)
      have hkl : k ≤ r.b.n := by omega
      have hkc : k ≤ r.b.c := by omega
      have d1 : decide ((k : Int) < 0) = false := decide_eq_false (by omega)
      have d2 : decide (r.b.n < k) = false := decide_eq_false (by omega)
      have hkc2 : (k : Int) ≤ (r.b.c : Int) := by omega
      have hn0 : (r.b.n : Int) ≤ 16777216 := by omega
      have hs0 : (r.safe : Int) ≤ 16777216 := by omega
      have HL := Lib.hid hlen
      clear hbad hlen
      go_enter Try.func56, Try.ntmps56
      go_wp2_with fail
      refine hhas.mono ?_
      rintro e w1 ⟨rfl, h1, hb1, hz1⟩
      have hf := h1.file s r HR.out
      have c0 : w1.cell? ⟨r.blk, 0, none⟩ = some (.slice r.b.a r.b.n r.b.c) := by rw [(cells_known hf.cells).1]; simp [FileR.arr]
      have c1 : w1.cell? ⟨r.blk, 1, none⟩ = some (.int .i64 r.safe) := by rw [(cells_known hf.cells).1]; simp [FileR.arr]
      have f1 := (cells_known hf.cells).2.1
      have H1 := Lib.hid h1
      have HF := Lib.hid hf
      clear hhas h1 hf
      go_wp2_with fail
      have hmn : ((r.safe : Int) ≤ (k : Int)) ∨ ((k : Int) < (r.safe : Int)) := by omega
      rcases hmn with hmn | hmn
      · have hmn2 : min r.safe k = r.safe := by omega
        have HMN := Lib.hid hmn2
        clear hmn2
        go_region
        go_wp2_with fail
        go_ret
        have hu := ((Upd.setCell w1 ⟨r.blk, 0, none⟩ (.slice r.b.a k k)).trans (Upd.setCell _ ⟨r.blk, 1, none⟩ (.int .i64 (r.safe : Nat))) (fun _ _ h => h)).trans (c := ((w1.setCell ⟨r.blk, 0, none⟩ (.slice r.b.a k k)).setCell ⟨r.blk, 1, none⟩ (.int .i64 (r.safe : Nat))).drew) (T := fun _ => False) ⟨rfl, rfl, rfl, Nat.le_refl _, fun _ _ _ => rfl⟩ (fun _ _ h => h.elim)
        have hu' : Upd w1 _ (fun i => i = r.blk) := hu
        refine ⟨by rw [hT.out]; rfl, ⟨mb, fun t => if t = s then some { r with b := ⟨r.b.a, k, k⟩, l := r.l.take k, safe := min r.safe k } else F t, ?_⟩, hb1.trans (hu'.zone (hbase.grow hz1) (fun i e => by rw [e]; exact HF.out.above))⟩
        unfold truncM
        rw [hT.out, if_pos rfl, HS.out]
        refine H1.out.write (r' := { r with b := ⟨r.b.a, k, k⟩, l := r.l.take k, safe := min r.safe k }) HR.out rfl (fun g hg => .inl (Sl.own_cut hkc hg)) (hu'.mono (fun i _ e => .inl e)) ⟨HF.out.above, ?_, (HF.out.own.cutTo k (by rw [← HL.out]; exact hkl)).upd hu' (fun g hg => ((H1.out.ne_blk HR.out).2.2 g (Sl.own_cut hkc hg)).2.2 s r HR.out), by simp; omega, by simp; omega⟩
        show ((w1.setCell ⟨r.blk, 0, none⟩ (.slice r.b.a k k)).setCell ⟨r.blk, 1, none⟩ (.int .i64 (r.safe : Nat))).heap[r.blk]? = _
        rw [heap_set (heap_set HF.out.cells 0 _) 1 _]
        simp [FileR.arr, HMN.out]
      · have hmn2 : min r.safe k = k := by omega
        have HMN := Lib.hid hmn2
        clear hmn2
        go_region
        go_wp2_with fail
        go_ret
        have hu := ((Upd.setCell w1 ⟨r.blk, 0, none⟩ (.slice r.b.a k k)).trans (Upd.setCell _ ⟨r.blk, 1, none⟩ (.int .i64 (k : Nat))) (fun _ _ h => h)).trans (c := ((w1.setCell ⟨r.blk, 0, none⟩ (.slice r.b.a k k)).setCell ⟨r.blk, 1, none⟩ (.int .i64 (k : Nat))).drew) (T := fun _ => False) ⟨rfl, rfl, rfl, Nat.le_refl _, fun _ _ _ => rfl⟩ (fun _ _ h => h.elim)
        have hu' : Upd w1 _ (fun i => i = r.blk) := hu
        refine ⟨by rw [hT.out]; rfl, ⟨mb, fun t => if t = s then some { r with b := ⟨r.b.a, k, k⟩, l := r.l.take k, safe := min r.safe k } else F t, ?_⟩, hb1.trans (hu'.zone (hbase.grow hz1) (fun i e => by rw [e]; exact HF.out.above))⟩
        unfold truncM
        rw [hT.out, if_pos rfl, HS.out]
        refine H1.out.write (r' := { r with b := ⟨r.b.a, k, k⟩, l := r.l.take k, safe := min r.safe k }) HR.out rfl (fun g hg => .inl (Sl.own_cut hkc hg)) (hu'.mono (fun i _ e => .inl e)) ⟨HF.out.above, ?_, (HF.out.own.cutTo k (by rw [← HL.out]; exact hkl)).upd hu' (fun g hg => ((H1.out.ne_blk HR.out).2.2 g (Sl.own_cut hkc hg)).2.2 s r HR.out), by simp; omega, by simp; omega⟩
        show ((w1.setCell ⟨r.blk, 0, none⟩ (.slice r.b.a k k)).setCell ⟨r.blk, 1, none⟩ (.int .i64 (k : Nat))).heap[r.blk]? = _
        rw [heap_set (heap_set HF.out.cells 0 _) 1 _]
        simp [FileR.arr, HMN.out]
  · have hhas := has_no base p mb F M s [] w h hM (by simp) hbase (fun x => h0 (hE.trans x)) 1 rfl #[.string s.1] rfl E hE
    have hE0 : (E != 0) = true := by simp [h0]
    have hT : Hid (truncE M s n = E) := by unfold Hid truncE; rw [← hE, if_neg h0]
    have HN := Lib.hid h0
    clear hE h0 h
    go_enter Try.func56, Try.ntmps56
    go_wp2_with fail
    refine hhas.mono ?_
    rintro e w1 ⟨rfl, h1, hb1, hz1⟩
    have H1 := Lib.hid h1
    clear hhas h1
    go_wp2_with fail
    go_ret
    refine ⟨by rw [hT.out]; rfl, ⟨mb, F, ?_⟩, hb1⟩
    unfold truncM
    rw [hT.out, if_neg HN.out]
    exact H1.out
end Go.Proofs.Ytaopiefbejajkaa
