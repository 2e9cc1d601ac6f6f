/- Package file: no files, cuts, and what awake asks. Package coraclelaw7: what is awake. -/
import Derived.Test.YtaopiefbejajkaaFileI
import Derived.Lib.SlBytesConst
set_option linter.unusedSimpArgs false
set_option linter.unusedVariables false
namespace Go.Proofs.Ytaopiefbejajkaa
open Go.RowKit
def fs0 : FsM := ⟨fun _ => none, false, false, 0, 0, 0⟩
theorem new_fs (w : World) : Calls Try.prog 43 #[] w fun e w' => ∃ p, e = .returned (.pointer (some ⟨p, 0, none⟩)) ∧ fsAt w' (fun k => w.heap.size ≤ k) p fs0 ∧ Below w.heap.size w w' := by
  refine (new_file w).mono ?_
  rintro e W ⟨q, mb', rfl, hq1, hq2, hq3, hq4, hbW⟩
  exact ⟨q, rfl, ⟨mb', fun _ => none, ⟨hq3, hq4, hq1, ⟨0, Nat.le_refl _, hq2⟩, fun _ => rfl, fun _ _ h => (by cases h), fun _ _ _ _ h => (by cases h)⟩⟩, hbW⟩
theorem asked_nil (v : Sl) (w : World) : Calls Try.prog 97 #[.pointer none, .slice v.a v.n v.c] w fun e w' => e = .returned (.int .i64 7) ∧ w = w' := by
  go_enter Try.func97, Try.ntmps97
  go_wp2_with fail
  refine wp_scope_fwd 0 (by rfl) ?_
  go_wp2_with fail
  rw [jump_ret]
  go_ret
  exact ⟨rfl, rfl⟩
theorem has_nil (v : Sl) (w : World) : Calls Try.prog 98 #[.pointer none, .slice v.a v.n v.c] w fun e w' => e = .returned (.tuple #[.pointer none, .int .i64 7]) ∧ w = w' := by
  have hask := asked_nil v w
  go_enter Try.func98, Try.ntmps98
  go_wp2_with (go_at_call 97; refine hask.mono ?_; rintro e w' ⟨rfl, rfl⟩)
  go_ret2
  exact ⟨rfl, rfl⟩
theorem sync_nil (s : Nm) (w : World) : Calls Try.prog 45 #[.pointer none, .string s.1] w fun e w' => e = .returned (.int .i64 7) ∧ Below w.heap.size w w' := by
  have hh := fun w' : World => has_nil ⟨some ⟨w.heap.size, 0, none⟩, 1, 1⟩ w'
  go_enter Try.func45, Try.ntmps45
  go_wp2_with (go_at_call 98; refine (hh _).mono ?_; rintro e w' ⟨rfl, rfl⟩)
  go_ret
  exact ⟨rfl, (Below.refl _ w).alloc (Nat.le_refl _) _⟩
theorem crash_nil (v : Sl) (w : World) : Calls Try.prog 47 #[.pointer none, .slice v.a v.n v.c] w fun e w' => e = .returned (.pointer none) ∧ w = w' := by
  go_enter Try.func47, Try.ntmps47
  go_wp2_with fail
  go_ret
  exact ⟨rfl, rfl⟩
theorem FileAt.zone {w : World} {S T : Nat → Prop} {r : FileR} (h : FileAt w S r) (hS : ∀ k, k < w.heap.size → S k → T k) : FileAt w T r :=
  ⟨hS _ h.lt h.above, h.cells, ⟨h.own.1, h.own.2.1, h.own.2.2.1, fun hc => by
    obtain ⟨g, cur, ha, hg, hh, r⟩ := h.own.2.2.2 hc
    exact ⟨g, cur, ha, hS _ (cells_known hh).2.2 hg, hh, r⟩⟩, h.safe, h.size⟩
/-- Another zone. -/
theorem fsAt.zone {w : World} {S T : Nat → Prop} {p : Nat} {M : FsM} (h : fsAt w S p M) (hS : ∀ k, k < w.heap.size → S k → T k) : fsAt w T p M := by
  obtain ⟨mb, F, h⟩ := h
  exact ⟨mb, F, hS _ h.lt.1 h.hp, hS _ h.lt.2 h.hm, h.hd, h.map, h.files, fun s r e => (h.file s r e).zone hS, h.apart⟩
def cutM (M : FsM) (n : Int) : FsM := { M with cut := true, left := max n 0 }
set_option maxHeartbeats 1000000 in
theorem cut_file (base : Nat → Prop) (p : Nat) (M : FsM) (n : Int) (w : World) (h : fsAt w base p M) (hbase : Fr base w) :
    Calls Try.prog 51 #[.pointer (some ⟨p, 0, none⟩), .int .i64 n] w fun e w' => e = .returned (.tuple #[]) ∧ fsAt w' base p (cutM M n) ∧ Zb base w w' := by
  obtain ⟨mb, F, h⟩ := h
  obtain ⟨files, cut, off, left, ops, nn⟩ := M
  have hp := h.hd
  change w.heap[p]? = some (.cells (FSV.mk (some mb) cut off left ops).arr 166 (0, 0)) at hp
  have hfp := (cells_known hp).2.1
  have hcp := (cells_known hp).1
  have hpl := (cells_known hp).2.2
  have H := Lib.hid h
  have HP := Lib.hid hp
  clear h hp
  go_enter Try.func51, Try.ntmps51
  go_wp2_with fail
  refine bodyPost_end (results_none rfl _ _ _) rfl ?_
  obtain ⟨X, hX⟩ : ∃ X, X = ((w.setCell ⟨p, 1, none⟩ (.bool true)).setCell ⟨p, 3, none⟩ (.int .i64 (max n 0))) := ⟨_, rfl⟩
  have hu : Upd w X (fun k => k = p) := hX ▸ ((Upd.setCell w ⟨p, 1, none⟩ _).trans (Upd.setCell _ ⟨p, 3, none⟩ _) (fun _ _ h => h))
  have hd : X.heap[p]? = some (.cells (FsM.head (cutM ⟨files, cut, off, left, ops, nn⟩ n) mb).arr 166 (0, 0)) := by
    rw [hX, heap_set (heap_set HP.out 1 (.bool true)) 3 (.int .i64 (max n 0))]
    simp only [FSV.set_1, FSV.set_3]
    rfl
  rw [← hX]
  exact ⟨rfl, ⟨mb, F, H.out.head hu hd rfl rfl⟩, hu.zone hbase (fun k e => by rw [e]; exact H.out.hp)⟩
/-! The same, of a zone that begins at a block. -/
theorem append_fileN (base p : Nat) (M : FsM) (s : Nm) (v : Sl) (m : List UInt8) (w : World) (h : fsAt w (fun k => base ≤ k) p M) (hM : M.small) (hbase : base ≤ w.heap.size) (hv : bytesAt w v m w.heap.size) (hva : v.a ≠ none ∨ v = ⟨none, 0, v.c⟩) (hvc : v.n ≤ v.c) (hml : m.length ≤ 1000000000) :
    Calls Try.prog 44 #[.pointer (some ⟨p, 0, none⟩), .string s.1, .slice v.a v.n v.c] w fun e w' => e = .returned (.int .i64 (appE M s m.length)) ∧ fsAt w' (fun k => base ≤ k) p (appM M s m) ∧ Below base w w' :=
  (append_file _ p M s v m w h hM (fun k hk => Nat.le_trans hbase hk) hv hva hvc hml).mono (fun e w' ⟨a, b, c⟩ => ⟨a, b, c.below hbase⟩)
theorem sync_fileN (base p : Nat) (M : FsM) (s : Nm) (w : World) (h : fsAt w (fun k => base ≤ k) p M) (hM : M.small) (hbase : base ≤ w.heap.size) :
    Calls Try.prog 45 #[.pointer (some ⟨p, 0, none⟩), .string s.1] w fun e w' => e = .returned (.int .i64 (hasE M s [])) ∧ fsAt w' (fun k => base ≤ k) p (syncM M s) ∧ Below base w w' :=
  (sync_file _ p M s w h hM (fun k hk => Nat.le_trans hbase hk)).mono (fun e w' ⟨a, b, c⟩ => ⟨a, b, c.below hbase⟩)
theorem rename_fileN (base p : Nat) (M : FsM) (s t : Nm) (w : World) (h : fsAt w (fun k => base ≤ k) p M) (hM : M.small) (hbase : base ≤ w.heap.size) :
    Calls Try.prog 46 #[.pointer (some ⟨p, 0, none⟩), .string s.1, .string t.1] w fun e w' => e = .returned (.int .i64 (hasE M s [t])) ∧ fsAt w' (fun k => base ≤ k) p (renameM M s t) ∧ Below base w w' :=
  (rename_file _ p M s t w h hM (fun k hk => Nat.le_trans hbase hk)).mono (fun e w' ⟨a, b, c⟩ => ⟨a, b, c.below hbase⟩)
theorem remove_fileN (base p : Nat) (M : FsM) (s : Nm) (w : World) (h : fsAt w (fun k => base ≤ k) p M) (hM : M.small) (hbase : base ≤ w.heap.size) :
    Calls Try.prog 54 #[.pointer (some ⟨p, 0, none⟩), .string s.1] w fun e w' => e = .returned (.int .i64 (hasE M s [])) ∧ fsAt w' (fun k => base ≤ k) p (removeM M s) ∧ Below base w w' :=
  (remove_file _ p M s w h hM (fun k hk => Nat.le_trans hbase hk)).mono (fun e w' ⟨a, b, c⟩ => ⟨a, b, c.below hbase⟩)
theorem truncate_fileN (base p : Nat) (M : FsM) (s : Nm) (n : Int) (w : World) (h : fsAt w (fun k => base ≤ k) p M) (hM : M.small) (hbase : base ≤ w.heap.size) :
    Calls Try.prog 56 #[.pointer (some ⟨p, 0, none⟩), .string s.1, .int .i64 n] w fun e w' => e = .returned (.int .i64 (truncE M s n)) ∧ fsAt w' (fun k => base ≤ k) p (truncM M s n) ∧ Below base w w' :=
  (truncate_file _ p M s n w h hM (fun k hk => Nat.le_trans hbase hk)).mono (fun e w' ⟨a, b, c⟩ => ⟨a, b, c.below hbase⟩)
theorem cut_fileN (base p : Nat) (M : FsM) (n : Int) (w : World) (h : fsAt w (fun k => base ≤ k) p M) (hbase : base ≤ w.heap.size) :
    Calls Try.prog 51 #[.pointer (some ⟨p, 0, none⟩), .int .i64 n] w fun e w' => e = .returned (.tuple #[]) ∧ fsAt w' (fun k => base ≤ k) p (cutM M n) ∧ Below base w w' :=
  (cut_file _ p M n w h (fun k hk => Nat.le_trans hbase hk)).mono (fun e w' ⟨a, b, c⟩ => ⟨a, b, c.below hbase⟩)
end Go.Proofs.Ytaopiefbejajkaa
namespace Go.Proofs.Ytaopiefbejajkaa
open Go.RowKit
theorem ownB.bytes {w : World} {base : Nat → Prop} {s : Sl} {l : List UInt8} (h : ownB w base s l) : bytesAt w s l w.heap.size := ⟨h.1, fun hl => by
  obtain ⟨k, hk⟩ : ∃ k, k < l.length := ⟨0, List.length_pos_iff.2 hl⟩
  obtain ⟨g, ha, _, _, hg, hc⟩ := h.cellAt hk
  exact ⟨g, 0, ha, hg, fun k hk => by rw [Nat.zero_add]; exact hc k hk⟩⟩
theorem names_single {M : FsM} {ns : List Nm} {s : Nm} (h : NamesOf M ns) (hs : ∀ t, (M.files t).isSome = true ↔ t = s) : ns = [s] := by
  have hm : ∀ t, t ∈ ns ↔ t = s := fun t => (h.mem t).trans (hs t)
  have hp : ns.Perm [s] := (List.perm_ext_iff_of_nodup h.nodup (by simp)).2 (fun t => by rw [hm t]; simp)
  exact List.perm_singleton.1 hp
def nE : Nm := ⟨⟨#[]⟩, by decide⟩
def nA : Nm := ⟨⟨#[97]⟩, by decide⟩
def nB : Nm := ⟨⟨#[98]⟩, by decide⟩
def aw1 : FsM := appM fs0 nA [120, 121]
def aw2 : FsM := appM aw1 nE []
theorem aw2_files (t : Nm) : (aw2.files t).isSome = true ↔ t = nA := by
  have : aw2.files t = if t = nA then some ([120, 121], 0) else none := rfl
  rw [this]
  by_cases h : t = nA <;> simp [h]
theorem aw_e1 : appE fs0 nA 2 = 0 := by decide
theorem aw_e2 : appE aw1 nE 0 = 1 := by decide
theorem aw_s0 : fs0.small := by unfold FsM.small; decide
theorem aw_s1 : aw1.small := by unfold FsM.small; decide
theorem aw_s2 : aw2.small := by unfold FsM.small; decide
theorem aw_c1 : (crashM aw2 [nA] []).files nA = some ([], 0) := by decide
theorem aw_c2 : (crashM aw2 [nA] [1]).files nA = some ([120], 1) := by decide
theorem aw_r : readE aw2 nB = 5 := by decide
theorem aw_f : safeE aw2 nA = 0 := by decide
/-- Bytes of a constant. -/
theorem bytes_const (w : World) (C : Array Value) (fr : Nat × Nat) (l : List UInt8) (n c : Nat) (hn : n = l.length) (hC : C = (byteVs l).toArray) : bytesAt (w.alloc (.cells C 5 fr)) ⟨some ⟨w.heap.size, 0, none⟩, n, c⟩ l (w.alloc (.cells C 5 fr)).heap.size := by
  subst hC hn
  refine ⟨rfl, fun hl => ⟨w.heap.size, 0, rfl, by simp, fun k hk => ?_⟩⟩
  rw [World.cell?_alloc_mark w _ _ fr (0 + k), Nat.zero_add]
  rw [List.getElem?_toArray, byteVs_get hk]
theorem nums_const (w : World) (C : Array Value) (fr : Nat × Nat) (t : TypeId) (l : List Int) (n c : Nat) (hn : n = l.length) (hc : n ≤ c) (hC : C = (l.map (Value.int .i64)).toArray) : numsAt (w.alloc (.cells C t fr)) ⟨some ⟨w.heap.size, 0, none⟩, n, c⟩ l (w.alloc (.cells C t fr)).heap.size := by
  subst hC hn
  refine ⟨rfl, hc, fun hl => ⟨w.heap.size, 0, rfl, by simp, fun k hk => ?_⟩⟩
  rw [World.cell?_alloc_mark w _ _ fr (0 + k), Nat.zero_add]
  simp [hk]
set_option maxRecDepth 100000 in
set_option maxHeartbeats 4000000 in
theorem awake7 (w : World) : Calls Try.prog 42 #[] w fun e w' => e = .returned (.bool true) ∧ Below w.heap.size w w' := by
  have kc := fun (w : World) (C : Array Value) (n c : Nat) => Lib.run_convert_bytes_const (P := Try.prog) w 96 5 C n c Try.underlying96 Try.underlying5
  go_enter Try.func42, Try.ntmps42
  go_wp2_with fail
  refine (new_fs w).mono ?_
  rintro e w1 ⟨p, rfl, h1, b1⟩
  have hc1 : ∀ X, Below w1.heap.size w1 X → bytesAt X ⟨some ⟨w1.heap.size, 0, none⟩, 2, 2⟩ [120, 121] X.heap.size → Calls Try.prog 44 #[.pointer (some ⟨p, 0, none⟩), .string nA.1, .slice (some ⟨w1.heap.size, 0, none⟩) 2 2] X fun e w' => e = .returned (.int .i64 0) ∧ fsAt w' (fun k => w.heap.size ≤ k) p aw1 ∧ Below w.heap.size X w' := by
    intro X hb hby
    have := append_fileN w.heap.size p fs0 nA ⟨some ⟨w1.heap.size, 0, none⟩, 2, 2⟩ [120, 121] X (h1.below hb) aw_s0 (Nat.le_trans b1.size hb.size) hby (.inl (by simp)) (Nat.le_refl _) (by simp)
    rw [show appE fs0 nA ([120, 121] : List UInt8).length = 0 from aw_e1] at this
    exact this
  have HC1 := Lib.hid hc1
  have H1 := Lib.hid h1
  have B1 := Lib.hid b1
  clear hc1 h1 b1
  go_wp2_with fail
  refine (HC1.out _ ((Below.refl _ w1).alloc (Nat.le_refl _) _) (bytes_const w1 _ _ [120, 121] 2 2 rfl rfl)).mono ?_
  rintro e w2 ⟨rfl, h2, b2⟩
  have b2' : Below w.heap.size w w2 := B1.out.trans (((Below.refl _ w1).alloc B1.out.size _).trans b2)
  have hc2 := append_fileN w.heap.size p aw1 nE ⟨none, 0, 0⟩ [] w2 h2 aw_s1 b2'.size ⟨rfl, fun h => absurd rfl h⟩ (.inr rfl) (Nat.le_refl _) (by simp)
  rw [show appE aw1 nE ([] : List UInt8).length = 1 from aw_e2] at hc2
  have B2 := Lib.hid b2'
  clear h2 b2 b2'
  go_wp2_with fail
  refine hc2.mono ?_
  rintro e w3 ⟨rfl, h3, b3⟩
  have b3' : Below w.heap.size w w3 := B2.out.trans b3
  have hcr := crash_file (fun k => w.heap.size ≤ k) p aw2 ⟨none, 0, 0⟩ [] w3 h3 aw_s2 ⟨rfl, Nat.le_refl _, fun h => absurd rfl h⟩ (by simp)
  have B3 := Lib.hid b3'
  have H3 := Lib.hid h3
  clear hc2 b3 b3' h3
  go_wp2_with fail
  refine hcr.mono ?_
  rintro e w4 ⟨q1, ns1, rfl, hn1, hq1, b4⟩
  have e1 := names_single hn1 aw2_files
  subst e1
  have h4 := H3.out.below b4
  have b4' : Below w.heap.size w w4 := B3.out.trans (b4.mono B3.out.size)
  have hb5 : Below w4.heap.size w4 (w4.alloc (.cells #[.int .i64 1] 3)) := (Below.refl _ _).alloc (Nat.le_refl _) _
  have hcr2 := crash_file (fun k => w.heap.size ≤ k) p aw2 ⟨some ⟨w4.heap.size, 0, none⟩, 1, 1⟩ [1] _ (h4.below hb5) aw_s2 (nums_const w4 _ _ _ [1] 1 1 rfl (Nat.le_refl _) rfl) (by simp)
  have B5 := Lib.hid (b4'.trans (hb5.mono b4'.size))
  have H5 := Lib.hid (h4.below hb5)
  have Q1 := Lib.hid (hq1.below hb5)
  clear hcr h4 b4 b4' hb5 hq1 hn1
  go_wp2_with fail
  refine hcr2.mono ?_
  rintro e w6 ⟨q2, ns2, rfl, hn2, hq2, b6⟩
  have e2 := names_single hn2 aw2_files
  subst e2
  have hr1 := read_file _ q1 _ nA w6 (Q1.out.below b6)
  rw [show readE (crashM aw2 [nA] []) nA = 0 from by decide, aw_c1] at hr1
  have B6 := Lib.hid (B5.out.trans (b6.mono B5.out.size))
  have H6 := Lib.hid (H5.out.below b6)
  have Q2 := Lib.hid hq2
  clear hcr2 b6 hq2 hn2
  go_wp2_with fail
  refine hr1.mono ?_
  rintro e w7 ⟨v1, rfl, ho1, b7⟩
  have hv1 : v1.n = 0 := ho1.1
  obtain ⟨v1a, v1n, v1c⟩ := v1
  simp only at hv1
  subst hv1
  have hr2 := read_file _ q2 _ nA w7 (Q2.out.below b7)
  rw [show readE (crashM aw2 [nA] [1]) nA = 0 from by decide, aw_c2] at hr2
  have B7 := Lib.hid (B6.out.trans (b7.mono B6.out.size))
  have H7 := Lib.hid (H6.out.below b7)
  clear hr1 b7 ho1
  go_wp2_with fail
  refine hr2.mono ?_
  rintro e w8 ⟨v2, rfl, ho2, b8⟩
  have hr3 := read_file _ p aw2 nB w8 (H7.out.below b8)
  rw [aw_r] at hr3
  have B8 := Lib.hid (B7.out.trans (b8.mono B7.out.size))
  have H8 := Lib.hid (H7.out.below b8)
  have HO2 := Lib.hid ho2
  clear hr2 b8 ho2
  go_wp2_with fail
  refine hr3.mono ?_
  rintro e w9 ⟨v3, rfl, ho3, b9⟩
  have hst : (convert 96 9 (.slice v2.a v2.n v2.c)).run Try.prog w9 = .ok (.string ⟨#[120]⟩) w9 := bytesAt_str (HO2.out.bytes.below b9)
  have hsf := safe_file _ p aw2 nA w9 (H8.out.below b9)
  rw [aw_f] at hsf
  have B9 := Lib.hid (B8.out.trans (b9.mono B8.out.size))
  clear hr3 ho3 b9
  go_wp2_with fail
  refine hsf.mono ?_
  rintro e wa ⟨rfl, rfl⟩
  clear hsf
  go_wp2_with fail
  refine (sync_nil nA _).mono ?_
  rintro e wb ⟨rfl, bb⟩
  have BB := Lib.hid (B9.out.trans (bb.mono B9.out.size))
  clear bb
  go_wp2_with fail
  refine (safe_nil nA _).mono ?_
  rintro e wc ⟨rfl, rfl⟩
  go_wp2_with fail
  refine (crash_nil ⟨none, 0, 0⟩ _).mono ?_
  rintro e wd ⟨rfl, rfl⟩
  go_wp2_with fail
  go_ret
  exact ⟨rfl, BB.out⟩
end Go.Proofs.Ytaopiefbejajkaa
