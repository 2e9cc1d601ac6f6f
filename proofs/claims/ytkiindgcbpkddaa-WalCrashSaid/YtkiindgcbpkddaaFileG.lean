/- Package file: bytes told, and counts. Package file: appending. -/
import Derived.Test.YtkiindgcbpkddaaFileE
import Derived.Test.YtkiindgcbpkddaaConv
import Derived.Test.YtkiindgcbpkddaaShaH
set_option linter.unusedSimpArgs false
set_option linter.unusedVariables false
namespace Go.Proofs.Ytkiindgcbpkddaa
open Go.RowKit
theorem wpList_append_run {P : Program} {w : World} {ops : Array Oper} {rest : List Oper} {o : Oper} {a : Act} {Q : Exit → Act → World → Prop} (hgd : o.guard = none) (s x : Operand) (t tx : TypeId)
    (ho : o.op = .call { callee := .builtin .append, args := #[s, x], argTypes := #[t, tx] }) (v u : Value) (hs : a.eval s = v) (hx : a.eval x = u) {v' : Value} {w' : World} (hr : (Builtin.append_ #[t, tx] o.type #[v, u]).run P w = .ok v' w')
    (hK : wpList P ops Q rest (a.put o.dst v') w') : wpList P ops Q (o :: rest) a w := by
  refine wpList_plain hgd fun K' hK' => ?_
  unfold Oper.wp execOp
  simp only [ho, resolve, invoke, builtin, Sem.run_bind, Sem.run_pure, Result.andThen_ok, List.map_toArray, List.map_cons, List.map_nil, hs, hx, hr]
  exact hK' _ _ hK
theorem info_u8 : ∃ i, Try.prog.info? 5 = some i ∧ i.zero = some (.int .u8 0) ∧ i.size = 1 ∧ i.bytes = 1 := by
  have h : (Try.prog.info? 5).map (fun i => (i.zero, i.size, i.bytes)) = some (some (.int .u8 0), 1, 1) := by kernel_rfl
  obtain ⟨i0, hi, hz0, hz1, hz2⟩ := info_parts h
  exact ⟨i0, hi, hz0, hz1, hz2⟩
/-- Bytes that may be appended. -/
theorem bytesAt.src {w : World} {v : Sl} {l : List UInt8} {B : Nat} (h : bytesAt w v l B) (ha : v.a ≠ none ∨ v = ⟨none, 0, v.c⟩) : Src Try.prog 1 102 (.slice v.a v.n v.c) l.length (byteVs l) w := by
  obtain ⟨a, n, c⟩ := v
  have hn : n = l.length := h.1
  subst hn
  cases a with
  | none =>
    have hl : l = [] := by
      by_cases hl : l = []
      · exact hl
      · obtain ⟨b, off, e, _⟩ := h.2 hl
        cases e
    subst hl
    exact Src.ofNil w Try.underlying102 c
  | some a =>
    refine Src.ofSlice w Try.underlying102 a l.length c (byteVs l) (by rw [byteVs_length]; simp) ?_ (by intro x hx; simp only [byteVs, List.mem_map] at hx; obtain ⟨c, _, rfl⟩ := hx; rfl)
    intro j x hx
    have hj : j < l.length := by have := (List.getElem?_eq_some_iff.1 hx).1; rwa [byteVs_length] at this
    obtain ⟨b, off, e, hb, hc⟩ := h.2 (by intro e; rw [e] at hj; simp at hj)
    simp only at e
    cases e
    have e : (⟨b, off, none⟩ : Addr).add j = ⟨b, off + j, none⟩ := by unfold Addr.add; split <;> simp_all
    rw [e, hc j hj]
    rw [byteVs_get hj] at hx
    exact hx
set_option maxRecDepth 100000 in
set_option maxHeartbeats 1000000 in
theorem clone_bytes (v : Sl) (l : List UInt8) (B : Nat) (w : World) (h : bytesAt w v l B) (hl : l.length ≤ 140737488355328) :
    Calls Try.prog 100 #[.slice v.a v.n v.c] w fun e w' => ∃ s : Sl, e = .returned (.slice s.a s.n s.c) ∧ ownB w' (fun k => w.heap.size ≤ k) s l ∧ Below w.heap.size w w' := by
  obtain ⟨a, n, c⟩ := v
  have heq := Lib.run_eql_slice_nil w (P := Try.prog) 102 _ a n c 0 0 Try.underlying102
  cases a with
  | none =>
    simp only [Option.isNone_none] at heq
    have hln : l = [] := by
      by_cases hl : l = []
      · exact hl
      · obtain ⟨b, off, e, _⟩ := h.2 hl
        cases e
    subst hln
    clear h
    go_enter Try.func100, Try.ntmps100
    go_wp2_with fail
    go_ret
    exact ⟨⟨none, 0, 0⟩, rfl, ownB_nil _ _, Below.refl _ _⟩
  | some a =>
    simp only [Option.isNone_some] at heq
    obtain ⟨i, hi, hz, hs, hb⟩ := info_u8
    have hbV : Below w.heap.size w (w.alloc (.cells #[] 5)) := (Below.refl _ _).alloc (Nat.le_refl _) _
    have hcell : ∀ l : List UInt8, bytesAt w ⟨some a, n, c⟩ l B → Src Try.prog 1 102 (.slice (some a) n c) l.length (byteVs l) (w.alloc (.cells #[] 5)) := by
      intro l h
      have hn : n = l.length := h.1
      refine bytesAt.src (v := ⟨some a, n, c⟩) (B := w.heap.size) ⟨hn, fun hl => ?_⟩ (.inl (by simp))
      obtain ⟨b, off, e, hb, hc⟩ := h.2 hl
      have hlt : b < w.heap.size := by
        obtain ⟨k, hk⟩ : ∃ k, k < l.length := ⟨0, List.length_pos_iff.2 hl⟩
        have := hc k hk
        rcases Nat.lt_or_ge b w.heap.size with g | g
        · exact g
        · simp [World.cell?, Array.getElem?_eq_none g] at this
      exact ⟨b, off, e, hlt, fun k hk => (hbV.cell (p := ⟨b, off + k, none⟩) hlt).trans (hc k hk)⟩
    obtain ⟨s', w', hrun, ho, hu, hn, he⟩ := run_append_B (P := Try.prog) (w.alloc (.cells #[] 5)) (fun k => w.heap.size ≤ k) 102 102 102 i Try.underlying102 hi hz hs hb ⟨some ⟨w.heap.size, 0, none⟩, 0, 0⟩ [] ⟨rfl, Nat.le_refl _, by simp [maxLen], fun h => absurd rfl h⟩ _ l (hcell l h) (fun k hk => Nat.le_trans hbV.size hk) (by simpa using hl)
    have hrun2 : (Builtin.append_ #[102, 102] 102 #[.slice (some ⟨w.heap.size, 0, none⟩) 0 0, .slice (some a) n c]).run Try.prog (w.alloc (.cells #[] 5)) = .ok (.slice s'.a s'.n s'.c) w' := hrun
    have HRUN := Lib.hid hrun2
    have HO := Lib.hid ho
    have HU := Lib.hid hu
    have HB := Lib.hid hbV
    clear hrun2 hrun ho hu hbV hn he hcell h hi hz hs hb hl
    go_enter Try.func100, Try.ntmps100
    go_wp2_with (refine wpList_append_run rfl _ _ _ _ rfl _ _ rfl rfl HRUN.out ?_)
    go_ret
    exact ⟨s', rfl, by simpa using HO.out, HB.out.trans ((HU.out.below HB.out.size (fun k e => by simp [Sl.own] at e)))⟩
def safeE (M : FsM) (s : Nm) : Int := match M.files s with | some x => (x.2 : Int) | none => -1
theorem fsAt.lt {w : World} {base : Nat → Prop} {p : Nat} {M : FsM} (h : fsAt w base p M) : p < w.heap.size := by obtain ⟨mb, F, h⟩ := h; exact h.lt.1
set_option maxRecDepth 100000 in
set_option maxHeartbeats 1000000 in
theorem safe_file (base : Nat → Prop) (p : Nat) (M : FsM) (s : Nm) (w : World) (h : fsAt w base p M) :
    Calls Try.prog 90 #[.pointer (some ⟨p, 0, none⟩), .string s.1] w fun e w' => e = .returned (.int .i64 (safeE M s)) ∧ w = w' := by
  obtain ⟨mb, F, h⟩ := h
  have c0 := h.cell0
  have hlk := h.looks s
  have hfs := h.files s
  cases hF : F s with
  | none =>
    rw [hF] at hlk hfs
    simp only [Option.map_none] at hlk hfs
    have hE : Hid (safeE M s = -1) := by unfold Hid safeE; rw [hfs]
    clear hF hfs h
    go_enter Try.func90, Try.ntmps90
    go_wp2_with fail
    go_ret
    exact ⟨by rw [hE.out]; rfl, rfl⟩
  | some r =>
    rw [hF] at hlk hfs
    simp only [Option.map_some] at hlk hfs
    have hE : Hid (safeE M s = r.safe) := by unfold Hid safeE; rw [hfs]
    have hf := h.file s r hF
    have c1 : w.cell? ⟨r.blk, 1, none⟩ = some (.int .i64 r.safe) := by rw [(cells_known hf.cells).1]; simp [FileR.arr]
    clear hF hfs h hf
    go_enter Try.func90, Try.ntmps90
    go_wp2_with fail
    go_ret
    exact ⟨by rw [hE.out]; rfl, rfl⟩
set_option maxRecDepth 100000 in
set_option maxHeartbeats 1000000 in
theorem safe_nil (s : Nm) (w : World) : Calls Try.prog 90 #[.pointer none, .string s.1] w fun e w' => e = .returned (.int .i64 (-1)) ∧ w = w' := by
  go_enter Try.func90, Try.ntmps90
  go_wp2_with fail
  go_ret
  exact ⟨rfl, rfl⟩
def readE (M : FsM) (s : Nm) : Int := if (M.files s).isSome then 0 else 5
set_option maxRecDepth 100000 in
set_option maxHeartbeats 1000000 in
theorem read_file (base : Nat → Prop) (p : Nat) (M : FsM) (s : Nm) (w : World) (h : fsAt w base p M) :
    Calls Try.prog 92 #[.pointer (some ⟨p, 0, none⟩), .string s.1] w fun e w' => ∃ v : Sl, e = .returned (.tuple #[.slice v.a v.n v.c, .int .i64 (readE M s)]) ∧ ownB w' (fun k => w.heap.size ≤ k) v ((M.files s).getD ([], 0)).1 ∧ Below w.heap.size w w' := by
  have hsafe := safe_file base p M s w h
  obtain ⟨mb, F, h⟩ := h
  have c0 := h.cell0
  have hlk := h.looks s
  have hfs := h.files s
  cases hF : F s with
  | none =>
    rw [hF] at hlk hfs
    simp only [Option.map_none] at hlk hfs
    have hS : safeE M s = -1 := by unfold safeE; rw [hfs]
    have hE : Hid (readE M s = 5) := by unfold Hid readE; rw [hfs]; rfl
    have hG : Hid (((M.files s).getD ([], 0)).1 = []) := by unfold Hid; rw [hfs]; rfl
    rw [hS] at hsafe
    clear hF hfs h hS
    go_enter Try.func92, Try.ntmps92
    go_wp2_with (go_at_call 90; refine hsafe.mono ?_; rintro e w1 ⟨rfl, rfl⟩)
    go_ret2
    exact ⟨⟨none, 0, 0⟩, by rw [hE.out]; rfl, by rw [hG.out]; exact ownB_nil _ _, Below.refl _ _⟩
  | some r =>
    rw [hF] at hlk hfs
    simp only [Option.map_some] at hlk hfs
    have hS : safeE M s = r.safe := by unfold safeE; rw [hfs]
    have hE : Hid (readE M s = 0) := by unfold Hid readE; rw [hfs]; rfl
    have hG : Hid (((M.files s).getD ([], 0)).1 = r.l) := by unfold Hid; rw [hfs]; rfl
    rw [hS] at hsafe
    have hf := h.file s r hF
    have c1 : w.cell? ⟨r.blk, 0, none⟩ = some (.slice r.b.a r.b.n r.b.c) := by rw [(cells_known hf.cells).1]; simp [FileR.arr]
    have hcl := clone_bytes r.b r.l w.heap.size w ⟨hf.own.1, fun hl => by
      obtain ⟨k, hk⟩ : ∃ k, k < r.l.length := ⟨0, List.length_pos_iff.2 hl⟩
      obtain ⟨g, ha, _, _, hg, hc⟩ := hf.own.cellAt hk
      exact ⟨g, 0, ha, hg, fun k hk => by rw [Nat.zero_add]; exact hc k hk⟩⟩ (by have := hf.size; omega)
    have hsn : decide ((r.safe : Int) < 0) = false := decide_eq_false (by omega)
    clear hF hfs h hf hS
    go_enter Try.func92, Try.ntmps92
    go_wp2_with (first | (go_at_call 90; refine hsafe.mono ?_; rintro e w1 ⟨rfl, rfl⟩) | (go_at_call 100; refine hcl.mono ?_; rintro e w2 ⟨v, rfl, ho2, hb2⟩))
    go_ret2
    exact ⟨v, by rw [hE.out]; rfl, by rw [hG.out]; exact ho2, hb2⟩
end Go.Proofs.Ytkiindgcbpkddaa
namespace Go.Proofs.Ytkiindgcbpkddaa
open Go.RowKit
def oldF (M : FsM) (s : Nm) : List UInt8 × Nat := (M.files s).getD ([], 0)
/-- What comes of an append. -/
def appE (M : FsM) (s : Nm) (n : Nat) : Int := if askE M [s] = 0 then (if 16777216 < (oldF M s).1.length + n then 3 else 0) else askE M [s]
def appM (M : FsM) (s : Nm) (m : List UInt8) : FsM := if appE M s m.length = 0 then { M.asked.put s (some ((oldF M s).1 ++ m, (oldF M s).2)) with n := M.n + 1 } else M.asked
theorem put_le (b : Bool) (n : Nat) : (if b = true then n else n + 1) ≤ n + 1 := by split <;> omega
/-- Bytes are not in a head. -/
theorem bytesAt.head {w w' : World} {v : Sl} {m : List UInt8} {B p : Nat} {x : FSV} (h : bytesAt w v m B) (hp : w.heap[p]? = some (.cells x.arr 165 (0, 0))) (hu : Upd w w' (fun k => k = p)) : bytesAt w' v m B := by
  refine ⟨h.1, fun hl => ?_⟩
  obtain ⟨b, off, ha, hb, hc⟩ := h.2 hl
  refine ⟨b, off, ha, hb, fun k hk => ?_⟩
  have h1 := hc k hk
  have hne : b ≠ p := by
    rintro rfl
    rw [(cells_known hp).1] at h1
    obtain ⟨x0, x1, x2, x3, x4⟩ := x
    have : off + k < 5 := by
      rcases Nat.lt_or_ge (off + k) 5 with g | g
      · exact g
      · rw [Array.getElem?_eq_none (by simp; exact g)] at h1; cases h1
    generalize off + k = j at h1 this
    match j, this with
    | 0, _ => simp [byteV] at h1
    | 1, _ => simp [byteV] at h1
    | 2, _ => simp [byteV] at h1
    | 3, _ => simp [byteV] at h1
    | 4, _ => simp [byteV] at h1
  have hlt : b < w.heap.size := by
    rcases Nat.lt_or_ge b w.heap.size with g | g
    · exact g
    · simp [World.cell?, Array.getElem?_eq_none g] at h1
  rw [hu.cell hlt hne]
  exact h1
theorem ownB.base_mono {w : World} {base base' : Nat → Prop} {s : Sl} {l : List UInt8} (h : ownB w base' s l) (hb : ∀ k, base' k → base k) : ownB w base s l := by
  refine ⟨h.1, h.2.1, h.2.2.1, fun hc => ?_⟩
  obtain ⟨g, cur, ha, hg, r⟩ := h.2.2.2 hc
  exact ⟨g, cur, ha, hb _ hg, r⟩
/-- A new file. -/
theorem FsRep.add {w w4 w5 : World} {base : Nat → Prop} {p mb : Nat} {F : Nm → Option FileR} {M : FsM} (h : FsRep w base p mb F M) {s : Nm} {r : FileR} (hF : F s = none) (hu4 : Upd w w4 (fun k => w.heap.size ≤ k)) (hu5 : Upd w4 w5 (fun k => k = mb))
    (hmap : mapEx w5 nmV mb (M.n + 1) (fun t => (if t = s then some r else F t).map fun r => .pointer (some ⟨r.blk, 0, none⟩))) (hr : FileAt w4 base r) (hblk : w.heap.size ≤ r.blk) (hown : ∀ k, r.b.own = some k → w.heap.size ≤ k) :
    FsRep w5 base p mb (fun t => if t = s then some r else F t) { M.put s (some (r.l, r.safe)) with n := M.n + 1 } := by
  have hpm : p ≠ mb := apart_map h.hd h.map
  have h4 : FsRep w4 base p mb F M := h.upd hu4 (by have := h.lt.1; omega) (by have := h.lt.2; omega) (fun t q e => ⟨by have := (h.file t q e).lt; omega, fun k hk => by have := ((h.file t q e).own.lt hk).2; omega⟩)
  refine ⟨h.hp, h.hm, (hu5.block _ h4.lt.1 hpm).trans h4.hd, hmap, ?_, ?_, ?_⟩
  · intro t
    show (if t = s then _ else M.files t) = _
    by_cases ht : t = s
    · subst ht; rw [if_pos rfl, if_pos rfl]; rfl
    · rw [if_neg ht, if_neg ht]; exact h.files t
  · intro t q hq
    by_cases ht : t = s
    · rw [if_pos ht] at hq
      cases hq
      have hmlt := h.lt.2
      exact hr.upd hu5 (by omega) (fun k hk => by have := hown k hk; omega)
    · rw [if_neg ht] at hq
      exact (h4.file t q hq).upd hu5 (h4.ne_blk hq).2.1 (fun k hk => ((h4.ne_blk hq).2.2 k hk).2.1)
  · intro t u q x hq hx htu
    by_cases ht : t = s
    · rw [if_pos ht] at hq
      cases hq
      have hus : u ≠ s := fun e => htu (ht.trans e.symm)
      rw [if_neg hus] at hx
      have hfx := h.file u x hx
      exact ⟨by have := hfx.lt; omega, fun k hk hk2 => by have := hown k hk; have := (hfx.own.lt hk2).2; omega⟩
    · rw [if_neg ht] at hq
      by_cases hus : u = s
      · rw [if_pos hus] at hx
        cases hx
        have hfq := h.file t q hq
        exact ⟨by have := hfq.lt; omega, fun k hk hk2 => by have := hown k hk2; have := (hfq.own.lt hk).2; omega⟩
      · rw [if_neg hus] at hx
        exact h.apart t u q x hq hx htu
set_option maxRecDepth 100000 in
set_option maxHeartbeats 2000000 in
theorem append_file (base : Nat → Prop) (p : Nat) (M : FsM) (s : Nm) (v : Sl) (m : List UInt8) (w : World) (h : fsAt w base p M) (hM : M.small) (hbase : Fr base w) (hv : bytesAt w v m w.heap.size) (hva : v.a ≠ none ∨ v = ⟨none, 0, v.c⟩) (hvc : v.n ≤ v.c) (hml : m.length ≤ 1000000000) :
    Calls Try.prog 97 #[.pointer (some ⟨p, 0, none⟩), .string s.1, .slice v.a v.n v.c] w fun e w' => e = .returned (.int .i64 (appE M s m.length)) ∧ fsAt w' base p (appM M s m) ∧ Zb base w w' := by
  obtain ⟨mb, F, h⟩ := h
  obtain ⟨E, hE⟩ : ∃ E, E = askE M [s] := ⟨_, rfl⟩
  have hbV : Below w.heap.size w (w.alloc (.cells #[.string s.1] 9)) := (Below.refl _ _).alloc (Nat.le_refl _) _
  have h0V := h.below hbV
  have hask := asked_file p mb w.heap.size 1 M [s] _ hM (by simp) h0V.hd (names_one w s) (by have := h.lt.1; omega)
  rw [← hE] at hask
  by_cases h0 : E = 0
  · subst h0
    have hvV : bytesAt (w.alloc (.cells #[.string s.1] 9)) v m (w.alloc (.cells #[.string s.1] 9)).heap.size := (hv.below hbV).mono hbV.size
    have HA := Lib.hid hE
    have H0 := Lib.hid h0V
    have HB := Lib.hid hbV
    have HV := Lib.hid hvV
    have hfs := h.files s
    have hvn : v.n = m.length := hv.1
    have HVN := Lib.hid hvn
    obtain ⟨ii, hi, hz, hs, hbb⟩ := info_u8
    cases hF : F s with
    | some r =>
      rw [hF] at hfs
      have hold : oldF M s = (r.l, r.safe) := by unfold oldF; rw [hfs]; rfl
      have hrn := (h.file s r hF).own.1
      have hrs := (h.file s r hF).size
      have hrf := (h.file s r hF).safe
      have hrc := (h.file s r hF).own.2.1
      by_cases hbig : 16777216 < r.l.length + m.length
      · have hT : Hid (appE M s m.length = 3) := by unfold Hid appE; rw [← hE, if_pos rfl, hold]; exact if_pos hbig
        have hd : decide ((16777216 : Int) - (r.b.n : Int) < (v.n : Int)) = true := decide_eq_true (by omega)
        have hrn2 : (r.b.n : Int) ≤ 16777216 := by omega
        have HF := Lib.hid hF
        clear hE h h0V hbV hvV hv hF hfs hold hrn hbig hvn
        go_enter Try.func97, Try.ntmps97
        go_wp2_with fail
        refine hask.mono ?_
        rintro e w1 ⟨rfl, hd1, hu1⟩
        have h1 := H0.out.head hu1 hd1 rfl rfl
        have c0 := h1.cell0
        have hlk := h1.looks s
        rw [HF.out] at hlk
        simp only [Option.map_some] at hlk
        have c1 : w1.cell? ⟨r.blk, 0, none⟩ = some (.slice r.b.a r.b.n r.b.c) := by rw [(cells_known (h1.file s r HF.out).cells).1]; simp [FileR.arr]
        have H1 := Lib.hid h1
        have HU := Lib.hid hu1
        clear hask hd1 hu1 h1
        go_wp2_with fail
        go_ret
        refine ⟨by rw [hT.out]; rfl, ⟨mb, F, ?_⟩, (zoned HB.out hbase).trans (HU.out.zone (hbase.grow HB.out.size) (fun k e => by rw [e]; exact H0.out.hp))⟩
        unfold appM
        rw [hT.out, if_neg (by decide)]
        exact H1.out
      · have hT : Hid (appE M s m.length = 0) := by unfold Hid appE; rw [← hE, if_pos rfl, hold]; exact if_neg hbig
        have hd : decide ((16777216 : Int) - (r.b.n : Int) < (v.n : Int)) = false := decide_eq_false (by omega)
        have hrn2 : (r.b.n : Int) ≤ 16777216 := by omega
        have HF := Lib.hid hF
        have HO := Lib.hid hold
        have HRN := Lib.hid hrn
        have HBIG := Lib.hid hbig
        clear hE h h0V hbV hvV hv hF hfs hold hrn hbig hvn
        go_enter Try.func97, Try.ntmps97
        go_wp2_with fail
        refine hask.mono ?_
        rintro e w1 ⟨rfl, hd1, hu1⟩
        have h1 := H0.out.head hu1 hd1 rfl rfl
        have c0 := h1.cell0
        have hlk := h1.looks s
        rw [HF.out] at hlk
        simp only [Option.map_some] at hlk
        have hf1 := h1.file s r HF.out
        have c1 : w1.cell? ⟨r.blk, 0, none⟩ = some (.slice r.b.a r.b.n r.b.c) := by rw [(cells_known hf1.cells).1]; simp [FileR.arr]
        have hv1 : bytesAt w1 v m w1.heap.size := (HV.out.head H0.out.hd hu1).mono hu1.size
        obtain ⟨s', w2, hrun, ho2, hu2, hn2, _⟩ := run_append_B (P := Try.prog) w1 base 102 102 102 ii Try.underlying102 hi hz hs hbb r.b r.l hf1.own (.slice v.a v.n v.c) m (hv1.src hva) (hbase.grow (Nat.le_trans HB.out.size hu1.size)) (by have := HBIG.out; omega)
        have hne := h1.ne_blk HF.out
        have hb2 : ¬ r.b.own = some r.blk := fun e => (hne.2.2 r.blk e).2.2 s r HF.out rfl
        have hc2 : w2.heap[r.blk]? = some (.cells r.arr 185 (0, 0)) := (hu2.block _ hf1.lt hb2).trans hf1.cells
        have c21 : w2.cell? ⟨r.blk, 0, none⟩ = some (.slice r.b.a r.b.n r.b.c) := by rw [(cells_known hc2).1]; simp [FileR.arr]
        have f21 := (cells_known hc2).2.1 0
        have c2p : w2.cell? ⟨p, 0, none⟩ = some (.map (some mb)) := (hu2.cell h1.lt.1 (fun e => (hne.2.2 p e).1 rfl) 0).trans c0
        have hpr : p ≠ r.blk := fun e => hne.1 e.symm
        have hu3 : Upd w1 (w2.setCell ⟨r.blk, 0, none⟩ (.slice s'.a s'.n s'.c)) (fun k => k = r.blk ∨ r.b.own = some k) := (hu2.mono (fun _ _ e => .inr e)).trans (Upd.setCell w2 ⟨r.blk, 0, none⟩ _) (fun k _ e => .inl e)
        have hw3 := h1.write (r' := { r with b := s', l := r.l ++ m }) HF.out rfl (fun k hk => (hn2 k hk).imp id id) hu3 ⟨hf1.above, by rw [heap_set hc2]; simp [FileR.arr], ho2.upd (Upd.setCell w2 ⟨r.blk, 0, none⟩ _) (fun k hk e => by
            rcases hn2 k hk with g | g
            · exact (hne.2.2 k g).2.2 s r HF.out e
            · have := hf1.lt; have e2 : k = r.blk := e; omega), by simp; omega, by have := HBIG.out; simp; omega⟩
        have hrun2 : (Builtin.append_ #[102, 102] 102 #[.slice r.b.a r.b.n r.b.c, .slice v.a v.n v.c]).run Try.prog w1 = .ok (.slice s'.a s'.n s'.c) w2 := hrun
        have HRUN := Lib.hid hrun2
        have HW3 := Lib.hid hw3
        have HU := Lib.hid hu1
        have HU3 := Lib.hid hu3
        have H1 := Lib.hid h1
        have HF1 := Lib.hid hf1
        clear hask hd1 hu1 h1 hf1 hv1 hrun hrun2 ho2 hu2 hn2 hne hb2 hc2 hu3 hw3 hi hz hs hbb
        go_wp2_with (first | (refine wpList_append_run rfl _ _ _ _ rfl _ _ rfl rfl HRUN.out ?_) | (refine wpList_mapPut nm_enc rfl _ _ _ rfl Try.underlying163 rfl HW3.out.map s rfl (.pointer (some ⟨r.blk, 0, none⟩)) rfl ?_; intro w4 hm4 hu4))
        go_ret
        have e1 : (upd (fun t => Option.map (fun r : FileR => Value.pointer (some ⟨r.blk, 0, none⟩)) (if t = s then some { r with b := s', l := r.l ++ m } else F t)) s (some (.pointer (some ⟨r.blk, 0, none⟩)))) = fun t => Option.map (fun r : FileR => Value.pointer (some ⟨r.blk, 0, none⟩)) (if t = s then some { r with b := s', l := r.l ++ m } else F t) := by
          funext x; unfold upd; by_cases hx : x = s <;> simp [hx]
        rw [e1] at hm4
        have hfin := HW3.out.remap (n := M.n + 1) hu4 (hm4.mono (put_le _ M.n)) id (fun _ _ h => h) (fun _ _ _ _ _ _ h => h)
        have e2 : ({ M.asked.put s (some (r.l ++ m, r.safe)) with files := fun t => Option.map (fun r : FileR => (r.l, r.safe)) (if t = s then some { r with b := s', l := r.l ++ m } else F t), n := M.n + 1 } : FsM) = appM M s m := by
          have e3 : appM M s m = { M.asked.put s (some (r.l ++ m, r.safe)) with n := M.n + 1 } := by unfold appM; rw [hT.out, if_pos rfl, HO.out]
          rw [e3]
          exact congrArg (fun f => ({ M.asked.put s (some (r.l ++ m, r.safe)) with files := f, n := M.n + 1 } : FsM)) (funext fun t => (HW3.out.files t).symm)
        rw [e2] at hfin
        refine ⟨by rw [hT.out]; rfl, ⟨mb, _, hfin⟩, (zoned HB.out hbase).trans ((HU.out.zone (hbase.grow HB.out.size) (fun k e => by rw [e]; exact H0.out.hp)).trans ((HU3.out.zone (hbase.grow (Nat.le_trans HB.out.size HU.out.size)) ?_).trans (hu4.zone ?_ (fun k e => by rw [e]; exact H0.out.hm))))⟩
        · rintro k (e | e)
          · rw [e]; exact HF1.out.above
          · exact (HF1.out.own.lt e).1
        · exact hbase.grow (Nat.le_trans HB.out.size (Nat.le_trans HU.out.size HU3.out.size))
    | none =>
      rw [hF] at hfs
      have hold : oldF M s = ([], 0) := by unfold oldF; rw [hfs]; rfl
      by_cases hbig : 16777216 < m.length
      · have hT : Hid (appE M s m.length = 3) := by unfold Hid appE; rw [← hE, if_pos rfl, hold]; exact if_pos (by simpa using hbig)
        have hd : decide ((16777216 : Int) < (v.n : Int)) = true := decide_eq_true (by omega)
        have HF := Lib.hid hF
        clear hE h h0V hbV hvV hv hF hfs hold hbig hvn
        go_enter Try.func97, Try.ntmps97
        go_wp2_with fail
        refine hask.mono ?_
        rintro e w1 ⟨rfl, hd1, hu1⟩
        have h1 := H0.out.head hu1 hd1 rfl rfl
        have c0 := h1.cell0
        have hlk := h1.looks s
        rw [HF.out] at hlk
        simp only [Option.map_none] at hlk
        have H1 := Lib.hid h1
        have HU := Lib.hid hu1
        clear hask hd1 hu1 h1
        have z1 : FileV.zero.b.n = 0 := rfl
        have z2 : FileV.zero.b.a = none := rfl
        have z3 : FileV.zero.b.c = 0 := rfl
        have z4 : wrap64 (16777216 - ((0 : Nat) : Int)) = 16777216 := by simp [wrap64]
        go_wp2_with fail
        go_ret
        have hb9 : Below w1.heap.size w1 (w1.alloc (.cells FileV.zero.arr 185)) := (Below.refl _ _).alloc (Nat.le_refl _) _
        refine ⟨by rw [hT.out]; rfl, ⟨mb, F, ?_⟩, (zoned HB.out hbase).trans ((HU.out.zone (hbase.grow HB.out.size) (fun k e => by rw [e]; exact H0.out.hp)).trans (zoned hb9 (hbase.grow (Nat.le_trans HB.out.size HU.out.size))))⟩
        unfold appM
        rw [hT.out, if_neg (by decide)]
        exact H1.out.below hb9
      · have hT : Hid (appE M s m.length = 0) := by unfold Hid appE; rw [← hE, if_pos rfl, hold]; exact if_neg (by simpa using hbig)
        have hd : decide ((16777216 : Int) < (v.n : Int)) = false := decide_eq_false (by omega)
        have HF := Lib.hid hF
        have HO := Lib.hid hold
        have HBIG := Lib.hid hbig
        clear hE h h0V hbV hvV hv hF hfs hold hbig hvn
        go_enter Try.func97, Try.ntmps97
        go_wp2_with fail
        refine hask.mono ?_
        rintro e w1 ⟨rfl, hd1, hu1⟩
        have h1 := H0.out.head hu1 hd1 rfl rfl
        have c0 := h1.cell0
        have hlk := h1.looks s
        rw [HF.out] at hlk
        simp only [Option.map_none] at hlk
        have hb9 : Below w1.heap.size w1 (w1.alloc (.cells FileV.zero.arr 185)) := (Below.refl _ _).alloc (Nat.le_refl _) _
        have hv1 : bytesAt (w1.alloc (.cells FileV.zero.arr 185)) v m (w1.alloc (.cells FileV.zero.arr 185)).heap.size := (((HV.out.head H0.out.hd hu1).mono hu1.size).below hb9).mono hb9.size
        obtain ⟨s', w2, hrun, ho2, hu2, hn2, _⟩ := run_append_B (P := Try.prog) (w1.alloc (.cells FileV.zero.arr 185)) (fun k => w1.heap.size ≤ k) 102 102 102 ii Try.underlying102 hi hz hs hbb ⟨none, 0, 0⟩ [] (ownB_nil _ _) (.slice v.a v.n v.c) m (hv1.src hva) (fun k hk => Nat.le_trans hb9.size hk) (by have := HBIG.out; simp; omega)
        have hrun2 : (Builtin.append_ #[102, 102] 102 #[.slice none 0 0, .slice v.a v.n v.c]).run Try.prog (w1.alloc (.cells FileV.zero.arr 185)) = .ok (.slice s'.a s'.n s'.c) w2 := hrun
        have hu2' : Upd (w1.alloc (.cells FileV.zero.arr 185)) w2 (fun _ => False) := hu2.mono (fun k _ e => by simp [Sl.own] at e)
        have hc2 : w2.heap[w1.heap.size]? = some (.cells FileV.zero.arr 185 (0, 0)) := (hu2'.block _ (by simp) (fun h => h)).trans (heap_alloc_new w1 _)
        have c21 : w2.cell? ⟨w1.heap.size, 0, none⟩ = some (.slice none 0 0) := by rw [(cells_known hc2).1]; simp [FileV.zero]
        have f21 := (cells_known hc2).2.1 0
        have c2p : w2.cell? ⟨p, 0, none⟩ = some (.map (some mb)) := (hu2'.cell (by have := h1.lt.1; simp; omega) (fun h => h) 0).trans ((hb9.cell (p := ⟨p, 0, none⟩) h1.lt.1).trans c0)
        have hpr : p ≠ w1.heap.size := by have := h1.lt.1; omega
        have hmr : mb ≠ w1.heap.size := by have := h1.lt.2; omega
        have hu3 : Upd w1 (w2.setCell ⟨w1.heap.size, 0, none⟩ (.slice s'.a s'.n s'.c)) (fun k => w1.heap.size ≤ k) := ((Upd.of_below hb9 (fun _ => False)).trans hu2' (fun _ _ h => h)).trans (Upd.setCell w2 ⟨w1.heap.size, 0, none⟩ _) (fun k _ e => by have e2 : k = w1.heap.size := e; omega) |>.mono (fun _ _ h => h.elim)
        have hbw1 : Fr base w1 := hbase.grow (Nat.le_trans HB.out.size hu1.size)
        have h4 : FsRep (w2.setCell ⟨w1.heap.size, 0, none⟩ (.slice s'.a s'.n s'.c)) base p mb F M.asked := h1.upd hu3 (by have := h1.lt.1; omega) (by have := h1.lt.2; omega) (fun t q e => ⟨by have := (h1.file t q e).lt; omega, fun k hk => by have := ((h1.file t q e).own.lt hk).2; omega⟩)
        have hfa : FileAt (w2.setCell ⟨w1.heap.size, 0, none⟩ (.slice s'.a s'.n s'.c)) base ⟨w1.heap.size, s', m, 0⟩ := by
          refine ⟨hbw1 _ (Nat.le_refl _), ?_, (ho2.base_mono (fun k hk => hbw1 k hk)).upd (Upd.setCell w2 ⟨w1.heap.size, 0, none⟩ _) (fun k hk e => ?_), Nat.zero_le _, by have := HBIG.out; simp; omega⟩
          · rw [heap_set hc2]; simp [FileR.arr, FileV.zero]
          · have e2 : k = w1.heap.size := e
            rcases hn2 k hk with g | g
            · simp [Sl.own] at g
            · simp at g; omega
        have HRUN := Lib.hid hrun2
        have H4 := Lib.hid h4
        have HFA := Lib.hid hfa
        have HU := Lib.hid hu1
        have HU3 := Lib.hid hu3
        have H1 := Lib.hid h1
        have HN2 := Lib.hid hn2
        have HBW := Lib.hid hbw1
        have z1 : FileV.zero.b.n = 0 := rfl
        have z2 : FileV.zero.b.a = none := rfl
        have z3 : FileV.zero.b.c = 0 := rfl
        have z4 : wrap64 (16777216 - ((0 : Nat) : Int)) = 16777216 := by simp [wrap64]
        have hpl := h1.lt.1
        clear hask hd1 hu1 h1 hv1 hrun hrun2 ho2 hu2 hu2' hn2 hc2 hu3 h4 hfa hi hz hs hbb hb9 hbw1
        go_wp2_with (first | (refine wpList_append_run rfl _ _ _ _ rfl _ _ rfl rfl HRUN.out ?_) | (refine wpList_mapPut nm_enc rfl _ _ _ rfl Try.underlying163 rfl H4.out.map s rfl (.pointer (some ⟨w1.heap.size, 0, none⟩)) rfl ?_; intro w4 hm4 hu4))
        go_ret
        have e1 : (upd (fun t => Option.map (fun r : FileR => Value.pointer (some ⟨r.blk, 0, none⟩)) (F t)) s (some (.pointer (some ⟨w1.heap.size, 0, none⟩)))) = fun t => Option.map (fun r : FileR => Value.pointer (some ⟨r.blk, 0, none⟩)) (if t = s then some ⟨w1.heap.size, s', m, 0⟩ else F t) := by
          funext x; unfold upd; by_cases hx : x = s <;> simp [hx]
        rw [e1] at hm4
        have hfin := H1.out.add (s := s) (r := ⟨w1.heap.size, s', m, 0⟩) HF.out HU3.out hu4 (hm4.mono (put_le _ M.n)) HFA.out (Nat.le_refl _) (fun k hk => by
          rcases HN2.out k hk with g | g
          · simp [Sl.own] at g
          · simp at g; omega)
        have e3 : appM M s m = { M.asked.put s (some (m, 0)) with n := M.asked.n + 1 } := by unfold appM; rw [hT.out, if_pos rfl, HO.out]; simp; rfl
        rw [← e3] at hfin
        exact ⟨by rw [hT.out]; rfl, ⟨mb, _, hfin⟩, (zoned HB.out hbase).trans ((HU.out.zone (hbase.grow HB.out.size) (fun k e => by rw [e]; exact H0.out.hp)).trans ((HU3.out.zone HBW.out (fun k e => HBW.out k e)).trans (hu4.zone (HBW.out.grow HU3.out.size) (fun k e => by rw [e]; exact H0.out.hm))))⟩
  · have hE0 : (E != 0) = true := by simp [h0]
    have hT : Hid (appE M s m.length = E) := by unfold Hid appE; rw [← hE, if_neg h0]
    have HN := Lib.hid h0
    have H0 := Lib.hid h0V
    have HB := Lib.hid hbV
    clear hE h0 h h0V hbV
    go_enter Try.func97, Try.ntmps97
    go_wp2_with fail
    refine hask.mono ?_
    rintro e w1 ⟨rfl, hd1, hu1⟩
    have H1 := Lib.hid (H0.out.head hu1 hd1 rfl rfl)
    have HU := Lib.hid hu1
    clear hask hd1 hu1
    go_wp2_with fail
    go_ret
    refine ⟨by rw [hT.out]; rfl, ⟨mb, F, ?_⟩, (zoned HB.out hbase).trans (HU.out.zone (hbase.grow HB.out.size) (fun k e => by rw [e]; exact H0.out.hp))⟩
    unfold appM
    rw [hT.out, if_neg HN.out]
    exact H1.out
end Go.Proofs.Ytkiindgcbpkddaa
