/- Package file: bytes told, and counts. -/
import Derived.Test.YtaopiefbejajkaaFileE
import Derived.Test.YtaopiefbejajkaaConv
set_option linter.unusedSimpArgs false
set_option linter.unusedVariables false
namespace Go.Proofs.Ytaopiefbejajkaa
open Go.RowKit
theorem wpList_append_run {P : Program} {w : World} {ops : Array Oper} {rest : List Oper} {o : Oper} {a : Act} {Q : Exit → Act → World → Prop} (hgd : o.guard = none) (s x : Operand) (t tx : TypeId)
    (ho : o.op = .call { callee := .builtin .append, args := #[s, x], argTypes := #[t, tx] }) (v u : Value) (hs : a.eval s = v) (hx : a.eval x = u) {v' : Value} {w' : World} (hr : (Builtin.append_ #[t, tx] o.type #[v, u]).run P w = .ok v' w')
    (hK : wpList P ops Q rest (a.put o.dst v') w') : wpList P ops Q (o :: rest) a w := by
  refine wpList_plain hgd fun K' hK' => ?_
  unfold Oper.wp execOp
  simp only [ho, resolve, invoke, builtin, Sem.run_bind, Sem.run_pure, Result.andThen_ok, List.map_toArray, List.map_cons, List.map_nil, hs, hx, hr]
  exact hK' _ _ hK
theorem info_u8 : ∃ i, Try.prog.info? 5 = some i ∧ i.zero = some (.int .u8 0) ∧ i.size = 1 ∧ i.bytes = 1 := by
  have h : (Try.prog.info? 5).map (fun i => (i.zero, i.size, i.bytes)) = some (some (.int .u8 0), 1, 1) := by kernel_rfl
  obtain ⟨i0, hi, hz0, hz1, hz2⟩ := info_parts h
  exact ⟨i0, hi, hz0, hz1, hz2⟩
/-- Bytes that may be appended. -/
theorem bytesAt.src {w : World} {v : Sl} {l : List UInt8} {B : Nat} (h : bytesAt w v l B) (ha : v.a ≠ none ∨ v = ⟨none, 0, v.c⟩) : Src Try.prog 1 96 (.slice v.a v.n v.c) l.length (byteVs l) w := by
  obtain ⟨a, n, c⟩ := v
  have hn : n = l.length := h.1
  subst hn
  cases a with
  | none =>
    have hl : l = [] := by
      by_cases hl : l = []
      · exact hl
      · obtain ⟨b, off, e, _⟩ := h.2 hl
        cases e
    subst hl
    exact Src.ofNil w Try.underlying96 c
  | some a =>
    refine Src.ofSlice w Try.underlying96 a l.length c (byteVs l) (by rw [byteVs_length]; simp) ?_ (by intro x hx; simp only [byteVs, List.mem_map] at hx; obtain ⟨c, _, rfl⟩ := hx; rfl)
    intro j x hx
    have hj : j < l.length := by have := (List.getElem?_eq_some_iff.1 hx).1; rwa [byteVs_length] at this
    obtain ⟨b, off, e, hb, hc⟩ := h.2 (by intro e; rw [e] at hj; simp at hj)
    simp only at e
    cases e
    have e : (⟨b, off, none⟩ : Addr).add j = ⟨b, off + j, none⟩ := by unfold Addr.add; split <;> simp_all
    rw [e, hc j hj]
    rw [byteVs_get hj] at hx
    exact hx
set_option maxRecDepth 100000 in
set_option maxHeartbeats 1000000 in
theorem clone_bytes (v : Sl) (l : List UInt8) (B : Nat) (w : World) (h : bytesAt w v l B) (hl : l.length ≤ 140737488355328) :
    Calls Try.prog 99 #[.slice v.a v.n v.c] w fun e w' => ∃ s : Sl, e = .returned (.slice s.a s.n s.c) ∧ ownB w' (fun k => w.heap.size ≤ k) s l ∧ Below w.heap.size w w' := by
  obtain ⟨a, n, c⟩ := v
  have heq := Lib.run_eql_slice_nil w (P := Try.prog) 96 _ a n c 0 0 Try.underlying96
  cases a with
  | none =>
    simp only [Option.isNone_none] at heq
    have hln : l = [] := by
      by_cases hl : l = []
      · exact hl
      · obtain ⟨b, off, e, _⟩ := h.2 hl
        cases e
    subst hln
    clear h
    go_enter Try.func99, Try.ntmps99
    go_wp2_with fail
    go_ret
    exact ⟨⟨none, 0, 0⟩, rfl, ownB_nil _ _, Below.refl _ _⟩
  | some a =>
    simp only [Option.isNone_some] at heq
    obtain ⟨i, hi, hz, hs, hb⟩ := info_u8
    have hbV : Below w.heap.size w (w.alloc (.cells #[] 5)) := (Below.refl _ _).alloc (Nat.le_refl _) _
    have hcell : ∀ l : List UInt8, bytesAt w ⟨some a, n, c⟩ l B → Src Try.prog 1 96 (.slice (some a) n c) l.length (byteVs l) (w.alloc (.cells #[] 5)) := by
      intro l h
      have hn : n = l.length := h.1
      refine bytesAt.src (v := ⟨some a, n, c⟩) (B := w.heap.size) ⟨hn, fun hl => ?_⟩ (.inl (by simp))
      obtain ⟨b, off, e, hb, hc⟩ := h.2 hl
      have hlt : b < w.heap.size := by
        obtain ⟨k, hk⟩ : ∃ k, k < l.length := ⟨0, List.length_pos_iff.2 hl⟩
        have := hc k hk
        rcases Nat.lt_or_ge b w.heap.size with g | g
        · exact g
        · simp [World.cell?, Array.getElem?_eq_none g] at this
      exact ⟨b, off, e, hlt, fun k hk => (hbV.cell (p := ⟨b, off + k, none⟩) hlt).trans (hc k hk)⟩
    obtain ⟨s', w', hrun, ho, hu, hn, he⟩ := run_append_B (P := Try.prog) (w.alloc (.cells #[] 5)) (fun k => w.heap.size ≤ k) 96 96 96 i Try.underlying96 hi hz hs hb ⟨some ⟨w.heap.size, 0, none⟩, 0, 0⟩ [] ⟨rfl, Nat.le_refl _, by simp [maxLen], fun h => absurd rfl h⟩ _ l (hcell l h) (fun k hk => Nat.le_trans hbV.size hk) (by simpa using hl)
    have hrun2 : (Builtin.append_ #[96, 96] 96 #[.slice (some ⟨w.heap.size, 0, none⟩) 0 0, .slice (some a) n c]).run Try.prog (w.alloc (.cells #[] 5)) = .ok (.slice s'.a s'.n s'.c) w' := hrun
    have HRUN := Lib.hid hrun2
    have HO := Lib.hid ho
    have HU := Lib.hid hu
    have HB := Lib.hid hbV
    clear hrun2 hrun ho hu hbV hn he hcell h hi hz hs hb hl
    go_enter Try.func99, Try.ntmps99
    go_wp2_with (refine wpList_append_run rfl _ _ _ _ rfl _ _ rfl rfl HRUN.out ?_)
    go_ret
    exact ⟨s', rfl, by simpa using HO.out, HB.out.trans ((HU.out.below HB.out.size (fun k e => by simp [Sl.own] at e)))⟩
def safeE (M : FsM) (s : Nm) : Int := match M.files s with | some x => (x.2 : Int) | none => -1
theorem fsAt.lt {w : World} {base : Nat → Prop} {p : Nat} {M : FsM} (h : fsAt w base p M) : p < w.heap.size := by obtain ⟨mb, F, h⟩ := h; exact h.lt.1
set_option maxRecDepth 100000 in
set_option maxHeartbeats 1000000 in
theorem safe_file (base : Nat → Prop) (p : Nat) (M : FsM) (s : Nm) (w : World) (h : fsAt w base p M) :
    Calls Try.prog 49 #[.pointer (some ⟨p, 0, none⟩), .string s.1] w fun e w' => e = .returned (.int .i64 (safeE M s)) ∧ w = w' := by
  obtain ⟨mb, F, h⟩ := h
  have c0 := h.cell0
  have hlk := h.looks s
  have hfs := h.files s
  cases hF : F s with
  | none =>
    rw [hF] at hlk hfs
    simp only [Option.map_none] at hlk hfs
    have hE : Hid (safeE M s = -1) := by unfold Hid safeE; rw [hfs]
    clear hF hfs h
    go_enter Try.func49, Try.ntmps49
    go_wp2_with fail
    go_ret
    exact ⟨by rw [hE.out]; rfl, rfl⟩
  | some r =>
    rw [hF] at hlk hfs
    simp only [Option.map_some] at hlk hfs
    have hE : Hid (safeE M s = r.safe) := by unfold Hid safeE; rw [hfs]
    have hf := h.file s r hF
    have c1 : w.cell? ⟨r.blk, 1, none⟩ = some (.int .i64 r.safe) := by rw [(cells_known hf.cells).1]; simp [FileR.arr]
    clear hF hfs h hf
    go_enter Try.func49, Try.ntmps49
    go_wp2_with fail
    go_ret
    exact ⟨by rw [hE.out]; rfl, rfl⟩
set_option maxRecDepth 100000 in
set_option maxHeartbeats 1000000 in
theorem safe_nil (s : Nm) (w : World) : Calls Try.prog 49 #[.pointer none, .string s.1] w fun e w' => e = .returned (.int .i64 (-1)) ∧ w = w' := by
  go_enter Try.func49, Try.ntmps49
  go_wp2_with fail
  go_ret
  exact ⟨rfl, rfl⟩
theorem ops_file (base : Nat → Prop) (p : Nat) (M : FsM) (w : World) (h : fsAt w base p M) :
    Calls Try.prog 52 #[.pointer (some ⟨p, 0, none⟩)] w fun e w' => e = .returned (.int .i64 M.ops) ∧ w = w' := by
  obtain ⟨mb, F, h⟩ := h
  have c4 : w.cell? ⟨p, 4, none⟩ = some (.int .i64 M.ops) := by rw [(cells_known h.hd).1]; simp [FsM.head]
  clear h
  go_enter Try.func52, Try.ntmps52
  go_wp2_with fail
  go_ret
  exact ⟨rfl, rfl⟩
def readE (M : FsM) (s : Nm) : Int := if (M.files s).isSome then 0 else 5
set_option maxRecDepth 100000 in
set_option maxHeartbeats 1000000 in
theorem read_file (base : Nat → Prop) (p : Nat) (M : FsM) (s : Nm) (w : World) (h : fsAt w base p M) :
    Calls Try.prog 48 #[.pointer (some ⟨p, 0, none⟩), .string s.1] w fun e w' => ∃ v : Sl, e = .returned (.tuple #[.slice v.a v.n v.c, .int .i64 (readE M s)]) ∧ ownB w' (fun k => w.heap.size ≤ k) v ((M.files s).getD ([], 0)).1 ∧ Below w.heap.size w w' := by
  have hsafe := safe_file base p M s w h
  obtain ⟨mb, F, h⟩ := h
  have c0 := h.cell0
  have hlk := h.looks s
  have hfs := h.files s
  cases hF : F s with
  | none =>
    rw [hF] at hlk hfs
    simp only [Option.map_none] at hlk hfs
    have hS : safeE M s = -1 := by unfold safeE; rw [hfs]
    have hE : Hid (readE M s = 5) := by unfold Hid readE; rw [hfs]; rfl
    have hG : Hid (((M.files s).getD ([], 0)).1 = []) := by unfold Hid; rw [hfs]; rfl
    rw [hS] at hsafe
    clear hF hfs h hS
    go_enter Try.func48, Try.ntmps48
    go_wp2_with (go_at_call 49; refine hsafe.mono ?_; rintro e w1 ⟨rfl, rfl⟩)
    go_ret2
    exact ⟨⟨none, 0, 0⟩, by rw [hE.out]; rfl, by rw [hG.out]; exact ownB_nil _ _, Below.refl _ _⟩
  | some r =>
    rw [hF] at hlk hfs
    simp only [Option.map_some] at hlk hfs
    have hS : safeE M s = r.safe := by unfold safeE; rw [hfs]
    have hE : Hid (readE M s = 0) := by unfold Hid readE; rw [hfs]; rfl
    have hG : Hid (((M.files s).getD ([], 0)).1 = r.l) := by unfold Hid; rw [hfs]; rfl
    rw [hS] at hsafe
    have hf := h.file s r hF
    have c1 : w.cell? ⟨r.blk, 0, none⟩ = some (.slice r.b.a r.b.n r.b.c) := by rw [(cells_known hf.cells).1]; simp [FileR.arr]
    have hcl := clone_bytes r.b r.l w.heap.size w ⟨hf.own.1, fun hl => by
      obtain ⟨k, hk⟩ : ∃ k, k < r.l.length := ⟨0, List.length_pos_iff.2 hl⟩
      obtain ⟨g, ha, _, _, hg, hc⟩ := hf.own.cellAt hk
      exact ⟨g, 0, ha, hg, fun k hk => by rw [Nat.zero_add]; exact hc k hk⟩⟩ (by have := hf.size; omega)
    have hsn : decide ((r.safe : Int) < 0) = false := decide_eq_false (by omega)
    clear hF hfs h hf hS
    go_enter Try.func48, Try.ntmps48
    go_wp2_with (first | (go_at_call 49; refine hsafe.mono ?_; rintro e w1 ⟨rfl, rfl⟩) | (go_at_call 99; refine hcl.mono ?_; rintro e w2 ⟨v, rfl, ho2, hb2⟩))
    go_ret2
    exact ⟨v, by rw [hE.out]; rfl, by rw [hG.out]; exact ho2, hb2⟩
end Go.Proofs.Ytaopiefbejajkaa
