/- Package file: no files, cuts, and what awake asks. Package coraclelaw7: what is awake. -/
import Derived.Test.YtkiindgcbpkddaaFileI
import Derived.Lib.SlBytesConst
set_option linter.unusedSimpArgs false
set_option linter.unusedVariables false
namespace Go.Proofs.Ytkiindgcbpkddaa
open Go.RowKit
def fs0 : FsM := ⟨fun _ => none, false, false, 0, 0, 0⟩
theorem new_fs (w : World) : Calls Try.prog 38 #[] w fun e w' => ∃ p, e = .returned (.pointer (some ⟨p, 0, none⟩)) ∧ fsAt w' (fun k => w.heap.size ≤ k) p fs0 ∧ Below w.heap.size w w' := by
  refine (new_file w).mono ?_
  rintro e W ⟨q, mb', rfl, hq1, hq2, hq3, hq4, hbW⟩
  exact ⟨q, rfl, ⟨mb', fun _ => none, ⟨hq3, hq4, hq1, ⟨0, Nat.le_refl _, hq2⟩, fun _ => rfl, fun _ _ h => (by cases h), fun _ _ _ _ h => (by cases h)⟩⟩, hbW⟩
theorem asked_nil (v : Sl) (w : World) : Calls Try.prog 146 #[.pointer none, .slice v.a v.n v.c] w fun e w' => e = .returned (.int .i64 7) ∧ w = w' := by
  go_enter Try.func146, Try.ntmps146
  go_wp2_with fail
  refine wp_scope_fwd 0 (by rfl) ?_
  go_wp2_with fail
  rw [jump_ret]
  go_ret
  exact ⟨rfl, rfl⟩
theorem has_nil (v : Sl) (w : World) : Calls Try.prog 139 #[.pointer none, .slice v.a v.n v.c] w fun e w' => e = .returned (.tuple #[.pointer none, .int .i64 7]) ∧ w = w' := by
  have hask := asked_nil v w
  go_enter Try.func139, Try.ntmps139
  go_wp2_with (go_at_call 146; refine hask.mono ?_; rintro e w' ⟨rfl, rfl⟩)
  go_ret2
  exact ⟨rfl, rfl⟩
theorem crash_nil (v : Sl) (w : World) : Calls Try.prog 46 #[.pointer none, .slice v.a v.n v.c] w fun e w' => e = .returned (.pointer none) ∧ w = w' := by
  go_enter Try.func46, Try.ntmps46
  go_wp2_with fail
  go_ret
  exact ⟨rfl, rfl⟩
theorem FileAt.zone {w : World} {S T : Nat → Prop} {r : FileR} (h : FileAt w S r) (hS : ∀ k, k < w.heap.size → S k → T k) : FileAt w T r :=
  ⟨hS _ h.lt h.above, h.cells, ⟨h.own.1, h.own.2.1, h.own.2.2.1, fun hc => by
    obtain ⟨g, cur, ha, hg, hh, r⟩ := h.own.2.2.2 hc
    exact ⟨g, cur, ha, hS _ (cells_known hh).2.2 hg, hh, r⟩⟩, h.safe, h.size⟩
/-- Another zone. -/
theorem fsAt.zone {w : World} {S T : Nat → Prop} {p : Nat} {M : FsM} (h : fsAt w S p M) (hS : ∀ k, k < w.heap.size → S k → T k) : fsAt w T p M := by
  obtain ⟨mb, F, h⟩ := h
  exact ⟨mb, F, hS _ h.lt.1 h.hp, hS _ h.lt.2 h.hm, h.hd, h.map, h.files, fun s r e => (h.file s r e).zone hS, h.apart⟩
def cutM (M : FsM) (n : Int) : FsM := { M with cut := true, left := max n 0 }
set_option maxHeartbeats 1000000 in
theorem cut_file (base : Nat → Prop) (p : Nat) (M : FsM) (n : Int) (w : World) (h : fsAt w base p M) (hbase : Fr base w) :
    Calls Try.prog 48 #[.pointer (some ⟨p, 0, none⟩), .int .i64 n] w fun e w' => e = .returned (.tuple #[]) ∧ fsAt w' base p (cutM M n) ∧ Zb base w w' := by
  obtain ⟨mb, F, h⟩ := h
  obtain ⟨files, cut, off, left, ops, nn⟩ := M
  have hp := h.hd
  change w.heap[p]? = some (.cells (FSV.mk (some mb) cut off left ops).arr 165 (0, 0)) at hp
  have hfp := (cells_known hp).2.1
  have hcp := (cells_known hp).1
  have hpl := (cells_known hp).2.2
  have H := Lib.hid h
  have HP := Lib.hid hp
  clear h hp
  go_enter Try.func48, Try.ntmps48
  go_wp2_with fail
  refine bodyPost_end (results_none rfl _ _ _) rfl ?_
  obtain ⟨X, hX⟩ : ∃ X, X = ((w.setCell ⟨p, 1, none⟩ (.bool true)).setCell ⟨p, 3, none⟩ (.int .i64 (max n 0))) := ⟨_, rfl⟩
  have hu : Upd w X (fun k => k = p) := hX ▸ ((Upd.setCell w ⟨p, 1, none⟩ _).trans (Upd.setCell _ ⟨p, 3, none⟩ _) (fun _ _ h => h))
  have hd : X.heap[p]? = some (.cells (FsM.head (cutM ⟨files, cut, off, left, ops, nn⟩ n) mb).arr 165 (0, 0)) := by
    rw [hX, heap_set (heap_set HP.out 1 (.bool true)) 3 (.int .i64 (max n 0))]
    simp only [FSV.set_1, FSV.set_3]
    rfl
  rw [← hX]
  exact ⟨rfl, ⟨mb, F, H.out.head hu hd rfl rfl⟩, hu.zone hbase (fun k e => by rw [e]; exact H.out.hp)⟩
/-! The same, of a zone that begins at a block. -/
theorem append_fileN (base p : Nat) (M : FsM) (s : Nm) (v : Sl) (m : List UInt8) (w : World) (h : fsAt w (fun k => base ≤ k) p M) (hM : M.small) (hbase : base ≤ w.heap.size) (hv : bytesAt w v m w.heap.size) (hva : v.a ≠ none ∨ v = ⟨none, 0, v.c⟩) (hvc : v.n ≤ v.c) (hml : m.length ≤ 1000000000) :
    Calls Try.prog 97 #[.pointer (some ⟨p, 0, none⟩), .string s.1, .slice v.a v.n v.c] w fun e w' => e = .returned (.int .i64 (appE M s m.length)) ∧ fsAt w' (fun k => base ≤ k) p (appM M s m) ∧ Below base w w' :=
  (append_file _ p M s v m w h hM (fun k hk => Nat.le_trans hbase hk) hv hva hvc hml).mono (fun e w' ⟨a, b, c⟩ => ⟨a, b, c.below hbase⟩)
theorem sync_fileN (base p : Nat) (M : FsM) (s : Nm) (w : World) (h : fsAt w (fun k => base ≤ k) p M) (hM : M.small) (hbase : base ≤ w.heap.size) :
    Calls Try.prog 99 #[.pointer (some ⟨p, 0, none⟩), .string s.1] w fun e w' => e = .returned (.int .i64 (hasE M s [])) ∧ fsAt w' (fun k => base ≤ k) p (syncM M s) ∧ Below base w w' :=
  (sync_file _ p M s w h hM (fun k hk => Nat.le_trans hbase hk)).mono (fun e w' ⟨a, b, c⟩ => ⟨a, b, c.below hbase⟩)
theorem rename_fileN (base p : Nat) (M : FsM) (s t : Nm) (w : World) (h : fsAt w (fun k => base ≤ k) p M) (hM : M.small) (hbase : base ≤ w.heap.size) :
    Calls Try.prog 106 #[.pointer (some ⟨p, 0, none⟩), .string s.1, .string t.1] w fun e w' => e = .returned (.int .i64 (hasE M s [t])) ∧ fsAt w' (fun k => base ≤ k) p (renameM M s t) ∧ Below base w w' :=
  (rename_file _ p M s t w h hM (fun k hk => Nat.le_trans hbase hk)).mono (fun e w' ⟨a, b, c⟩ => ⟨a, b, c.below hbase⟩)
theorem remove_fileN (base p : Nat) (M : FsM) (s : Nm) (w : World) (h : fsAt w (fun k => base ≤ k) p M) (hM : M.small) (hbase : base ≤ w.heap.size) :
    Calls Try.prog 91 #[.pointer (some ⟨p, 0, none⟩), .string s.1] w fun e w' => e = .returned (.int .i64 (hasE M s [])) ∧ fsAt w' (fun k => base ≤ k) p (removeM M s) ∧ Below base w w' :=
  (remove_file _ p M s w h hM (fun k hk => Nat.le_trans hbase hk)).mono (fun e w' ⟨a, b, c⟩ => ⟨a, b, c.below hbase⟩)
theorem truncate_fileN (base p : Nat) (M : FsM) (s : Nm) (n : Int) (w : World) (h : fsAt w (fun k => base ≤ k) p M) (hM : M.small) (hbase : base ≤ w.heap.size) :
    Calls Try.prog 94 #[.pointer (some ⟨p, 0, none⟩), .string s.1, .int .i64 n] w fun e w' => e = .returned (.int .i64 (truncE M s n)) ∧ fsAt w' (fun k => base ≤ k) p (truncM M s n) ∧ Below base w w' :=
  (truncate_file _ p M s n w h hM (fun k hk => Nat.le_trans hbase hk)).mono (fun e w' ⟨a, b, c⟩ => ⟨a, b, c.below hbase⟩)
theorem cut_fileN (base p : Nat) (M : FsM) (n : Int) (w : World) (h : fsAt w (fun k => base ≤ k) p M) (hbase : base ≤ w.heap.size) :
    Calls Try.prog 48 #[.pointer (some ⟨p, 0, none⟩), .int .i64 n] w fun e w' => e = .returned (.tuple #[]) ∧ fsAt w' (fun k => base ≤ k) p (cutM M n) ∧ Below base w w' :=
  (cut_file _ p M n w h (fun k hk => Nat.le_trans hbase hk)).mono (fun e w' ⟨a, b, c⟩ => ⟨a, b, c.below hbase⟩)
end Go.Proofs.Ytkiindgcbpkddaa
namespace Go.Proofs.Ytkiindgcbpkddaa
open Go.RowKit
theorem ownB.bytes {w : World} {base : Nat → Prop} {s : Sl} {l : List UInt8} (h : ownB w base s l) : bytesAt w s l w.heap.size := ⟨h.1, fun hl => by
  obtain ⟨k, hk⟩ : ∃ k, k < l.length := ⟨0, List.length_pos_iff.2 hl⟩
  obtain ⟨g, ha, _, _, hg, hc⟩ := h.cellAt hk
  exact ⟨g, 0, ha, hg, fun k hk => by rw [Nat.zero_add]; exact hc k hk⟩⟩
theorem names_single {M : FsM} {ns : List Nm} {s : Nm} (h : NamesOf M ns) (hs : ∀ t, (M.files t).isSome = true ↔ t = s) : ns = [s] := by
  have hm : ∀ t, t ∈ ns ↔ t = s := fun t => (h.mem t).trans (hs t)
  have hp : ns.Perm [s] := (List.perm_ext_iff_of_nodup h.nodup (by simp)).2 (fun t => by rw [hm t]; simp)
  exact List.perm_singleton.1 hp
def nE : Nm := ⟨⟨#[]⟩, by decide⟩
def nA : Nm := ⟨⟨#[97]⟩, by decide⟩
def nB : Nm := ⟨⟨#[98]⟩, by decide⟩
def aw1 : FsM := appM fs0 nA [120, 121]
def aw2 : FsM := appM aw1 nE []
theorem aw2_files (t : Nm) : (aw2.files t).isSome = true ↔ t = nA := by
  have : aw2.files t = if t = nA then some ([120, 121], 0) else none := rfl
  rw [this]
  by_cases h : t = nA <;> simp [h]
theorem aw_e1 : appE fs0 nA 2 = 0 := by decide
theorem aw_e2 : appE aw1 nE 0 = 1 := by decide
theorem aw_s0 : fs0.small := by unfold FsM.small; decide
theorem aw_s1 : aw1.small := by unfold FsM.small; decide
theorem aw_s2 : aw2.small := by unfold FsM.small; decide
theorem aw_c1 : (crashM aw2 [nA] []).files nA = some ([], 0) := by decide
theorem aw_c2 : (crashM aw2 [nA] [1]).files nA = some ([120], 1) := by decide
theorem aw_r : readE aw2 nB = 5 := by decide
theorem aw_f : safeE aw2 nA = 0 := by decide
/-- Bytes of a constant. -/
theorem bytes_const (w : World) (C : Array Value) (fr : Nat × Nat) (l : List UInt8) (n c : Nat) (hn : n = l.length) (hC : C = (byteVs l).toArray) : bytesAt (w.alloc (.cells C 5 fr)) ⟨some ⟨w.heap.size, 0, none⟩, n, c⟩ l (w.alloc (.cells C 5 fr)).heap.size := by
  subst hC hn
  refine ⟨rfl, fun hl => ⟨w.heap.size, 0, rfl, by simp, fun k hk => ?_⟩⟩
  rw [World.cell?_alloc_mark w _ _ fr (0 + k), Nat.zero_add]
  rw [List.getElem?_toArray, byteVs_get hk]
theorem nums_const (w : World) (C : Array Value) (fr : Nat × Nat) (t : TypeId) (l : List Int) (n c : Nat) (hn : n = l.length) (hc : n ≤ c) (hC : C = (l.map (Value.int .i64)).toArray) : numsAt (w.alloc (.cells C t fr)) ⟨some ⟨w.heap.size, 0, none⟩, n, c⟩ l (w.alloc (.cells C t fr)).heap.size := by
  subst hC hn
  refine ⟨rfl, hc, fun hl => ⟨w.heap.size, 0, rfl, by simp, fun k hk => ?_⟩⟩
  rw [World.cell?_alloc_mark w _ _ fr (0 + k), Nat.zero_add]
  simp [hk]
end Go.Proofs.Ytkiindgcbpkddaa
