/- A log begun anew. A log begun anew. A log begun anew, with the power on. -/
import Derived.Test.YtkiindgcbpkddaaWalS
import Derived.Deep.RegionLaw
set_option linter.unusedSimpArgs false
set_option linter.unusedVariables false
namespace Go.Proofs.Ytkiindgcbpkddaa
open Go.RowKit
section
variable {w : World} {b1 b2 b3 q p : Nat}
theorem more_of {w w' : World} {Z : Nat → Prop} {p : Nat} {M : FsM} {X : World} (h : fsAt X (more Z w') p M) (hw : w.heap.size ≤ w'.heap.size) : fsAt X (more Z w) p M := h.zone (fun k _ hz => hz.imp id (fun h => Nat.le_trans hw h))
/-- The three acts of a Reset, as they are called. -/
theorem act1 (Z : Nat → Prop) (M : FsM) (s : Nm) (v : Sl) (m : List UInt8) (L : LogM) (sl : Sl) (h1 : w.cell? ⟨b1, 0, none⟩ = some (.pointer (some ⟨q, 0, none⟩))) (h2 : w.cell? ⟨b2, 0, none⟩ = some (.string s.1)) (h3 : w.cell? ⟨b3, 0, none⟩ = some (.slice v.a v.n v.c)) (hv : bytesAt w v m w.heap.size) (hvc : v.n ≤ v.c) (hml : m.length ≤ 1000000000) (hq : w.heap[q]? = some (.cells (L.head p sl).arr 167 (0, 0))) (h : fsAt w Z p M) (hM : M.small) :
    Calls Try.prog 103 #[.pointer (some ⟨b1, 0, none⟩), .pointer (some ⟨b2, 0, none⟩), .pointer (some ⟨b3, 0, none⟩)] w fun e w' => e = .returned (.int .i64 (appE M s m.length)) ∧ fsAt w' (more Z w) p (appM M s m) ∧ Upd w w' Z := by
  have c0 : w.cell? ⟨q, 0, none⟩ = some (.pointer (some ⟨p, 0, none⟩)) := ((cells_known hq).1 0).trans (LogV.arr_0 _)
  have c1 : w.cell? ⟨q, 1, none⟩ = some (.string L.name.1) := ((cells_known hq).1 1).trans (LogV.arr_1 _)
  have H := Lib.hid h
  clear h hq
  go_enter Try.func103, Try.ntmps103
  go_wp2_with fail
  refine wp_region_quiet_tail 6 (by kernel_rfl) (by kernel_rfl) ?_
  simp only [List.take_succ_cons, List.take_zero, List.drop_succ_cons, List.drop_zero]
  repeat (go_big_quiet_step (fail))
  refine wpQuiet_nil ?_
  intro nq
  obtain ⟨Y, hY⟩ : ∃ Y, Y = w.drewN nq := ⟨_, rfl⟩
  rw [← hY]
  have hbY : Below w.heap.size w Y := hY ▸ below_drewN (Below.refl _ _) nq
  have hap := append_fsZ s v m (H.out.below hbY) hM ((hv.below hbY).mono hbY.size) hvc hml
  have HB := Lib.hid hbY
  clear hY hbY c0 c1
  go_wp2_with (go_at_call 97; refine hap.mono ?_; rintro e w2 ⟨rfl, a1, a2⟩)
  go_ret
  exact ⟨rfl, more_of a1 HB.out.size, (Upd.of_below HB.out _).trans a2 (fun k _ e => e)⟩
theorem act2 (Z : Nat → Prop) (M : FsM) (s : Nm) (L : LogM) (sl : Sl) (h1 : w.cell? ⟨b1, 0, none⟩ = some (.pointer (some ⟨q, 0, none⟩))) (h2 : w.cell? ⟨b2, 0, none⟩ = some (.string s.1)) (hq : w.heap[q]? = some (.cells (L.head p sl).arr 167 (0, 0))) (h : fsAt w Z p M) (hM : M.small) :
    Calls Try.prog 104 #[.pointer (some ⟨b1, 0, none⟩), .pointer (some ⟨b2, 0, none⟩)] w fun e w' => e = .returned (.int .i64 (hasE M s [])) ∧ fsAt w' (more Z w) p (syncM M s) ∧ Upd w w' Z := by
  have c0 : w.cell? ⟨q, 0, none⟩ = some (.pointer (some ⟨p, 0, none⟩)) := ((cells_known hq).1 0).trans (LogV.arr_0 _)
  have c1 : w.cell? ⟨q, 1, none⟩ = some (.string L.name.1) := ((cells_known hq).1 1).trans (LogV.arr_1 _)
  have H := Lib.hid h
  clear h hq
  go_enter Try.func104, Try.ntmps104
  go_wp2_with fail
  refine wp_region_quiet_tail 5 (by kernel_rfl) (by kernel_rfl) ?_
  simp only [List.take_succ_cons, List.take_zero, List.drop_succ_cons, List.drop_zero]
  repeat (go_big_quiet_step (fail))
  refine wpQuiet_nil ?_
  intro nq
  obtain ⟨Y, hY⟩ : ∃ Y, Y = w.drewN nq := ⟨_, rfl⟩
  rw [← hY]
  have hbY : Below w.heap.size w Y := hY ▸ below_drewN (Below.refl _ _) nq
  have hap := sync_fsZ s (H.out.below hbY) hM
  have HB := Lib.hid hbY
  clear hY hbY c0 c1
  go_wp2_with (go_at_call 99; refine hap.mono ?_; rintro e w2 ⟨rfl, a1, a2⟩)
  go_ret
  exact ⟨rfl, more_of a1 HB.out.size, (Upd.of_below HB.out _).trans a2 (fun k _ e => e)⟩
theorem act3 (Z : Nat → Prop) (M : FsM) (s : Nm) (L : LogM) (sl : Sl) (h1 : w.cell? ⟨b1, 0, none⟩ = some (.pointer (some ⟨q, 0, none⟩))) (h2 : w.cell? ⟨b2, 0, none⟩ = some (.string s.1)) (hq : w.heap[q]? = some (.cells (L.head p sl).arr 167 (0, 0))) (h : fsAt w Z p M) (hM : M.small) :
    Calls Try.prog 105 #[.pointer (some ⟨b1, 0, none⟩), .pointer (some ⟨b2, 0, none⟩)] w fun e w' => e = .returned (.int .i64 (hasE M s [L.name])) ∧ fsAt w' (more Z w) p (renameM M s L.name) ∧ Upd w w' Z := by
  have c0 : w.cell? ⟨q, 0, none⟩ = some (.pointer (some ⟨p, 0, none⟩)) := ((cells_known hq).1 0).trans (LogV.arr_0 _)
  have c1 : w.cell? ⟨q, 1, none⟩ = some (.string L.name.1) := ((cells_known hq).1 1).trans (LogV.arr_1 _)
  have H := Lib.hid h
  clear h hq
  go_enter Try.func105, Try.ntmps105
  go_wp2_with fail
  refine wp_region_quiet_tail 9 (by kernel_rfl) (by kernel_rfl) ?_
  simp only [List.take_succ_cons, List.take_zero, List.drop_succ_cons, List.drop_zero]
  repeat (go_big_quiet_step (fail))
  refine wpQuiet_nil ?_
  intro nq
  obtain ⟨Y, hY⟩ : ∃ Y, Y = w.drewN nq := ⟨_, rfl⟩
  rw [← hY]
  have hbY : Below w.heap.size w Y := hY ▸ below_drewN (Below.refl _ _) nq
  have hap := rename_fsZ s L.name (H.out.below hbY) hM
  have HB := Lib.hid hbY
  clear hY hbY c0 c1
  go_wp2_with (go_at_call 106; refine hap.mono ?_; rintro e w2 ⟨rfl, a1, a2⟩)
  go_ret
  exact ⟨rfl, more_of a1 HB.out.size, (Upd.of_below HB.out _).trans a2 (fun k _ e => e)⟩
end
end Go.Proofs.Ytkiindgcbpkddaa
namespace Go.Proofs.Ytkiindgcbpkddaa
open Go.RowKit
section
variable (M : FsM) (L : LogM) (h40 : L.name.1.size ≤ 40) (rs : List (List UInt8))
def rstM1 : FsM := appM M (tmpN L.name h40) (framesS rs)
def rstM2 : FsM := syncM (rstM1 M L h40 rs) (tmpN L.name h40)
def rstM3 : FsM := renameM (rstM2 M L h40 rs) (tmpN L.name h40) L.name
def rstE1 : Int := appE M (tmpN L.name h40) (framesS rs).length
def rstE2 : Int := hasE (rstM1 M L h40 rs) (tmpN L.name h40) []
def rstE3 : Int := hasE (rstM2 M L h40 rs) (tmpN L.name h40) [L.name]
def rstE : Int := if rstE1 M L h40 rs ≠ 0 then rstE1 M L h40 rs else if rstE2 M L h40 rs ≠ 0 then rstE2 M L h40 rs else rstE3 M L h40 rs
def rstM : FsM := if rstE1 M L h40 rs ≠ 0 then rstM1 M L h40 rs else if rstE2 M L h40 rs ≠ 0 then rstM2 M L h40 rs else rstM3 M L h40 rs
def rstL : LogM := if rstE M L h40 rs = 0 then { L with recs := rs, size := (framesS rs).length } else L.fail (rstE M L h40 rs)
/-- How far it has come. -/
def rstAt : Nat → FsM
  | 0 => M
  | 1 => rstM1 M L h40 rs
  | 2 => rstM2 M L h40 rs
  | _ => rstM3 M L h40 rs
def rstErr : Nat → Int
  | 0 => rstE1 M L h40 rs
  | 1 => rstE2 M L h40 rs
  | _ => rstE3 M L h40 rs
end
section
variable {M : FsM} {L : LogM} {h40 : L.name.1.size ≤ 40} {rs : List (List UInt8)}
theorem rst_stop {k : Nat} (hk : k < 3) (h0 : ∀ m, m < k → rstErr M L h40 rs m = 0) (hE : rstErr M L h40 rs k ≠ 0) : rstE M L h40 rs = rstErr M L h40 rs k ∧ rstM M L h40 rs = rstAt M L h40 rs (k + 1) := by
  unfold rstE rstM
  match k, hk with
  | 0, _ =>
    have h : rstE1 M L h40 rs ≠ 0 := hE
    rw [if_pos h, if_pos h]; exact ⟨rfl, rfl⟩
  | 1, _ =>
    have h1 : rstE1 M L h40 rs = 0 := h0 0 (by decide)
    have h : rstE2 M L h40 rs ≠ 0 := hE
    rw [if_neg (not_not_intro h1), if_neg (not_not_intro h1), if_pos h, if_pos h]; exact ⟨rfl, rfl⟩
  | 2, _ =>
    have h1 : rstE1 M L h40 rs = 0 := h0 0 (by decide)
    have h2 : rstE2 M L h40 rs = 0 := h0 1 (by decide)
    rw [if_neg (not_not_intro h1), if_neg (not_not_intro h1), if_neg (not_not_intro h2), if_neg (not_not_intro h2)]; exact ⟨rfl, rfl⟩
theorem rst_done (h0 : ∀ m, m < 3 → rstErr M L h40 rs m = 0) : rstE M L h40 rs = 0 ∧ rstM M L h40 rs = rstAt M L h40 rs 3 := by
  have h1 : rstE1 M L h40 rs = 0 := h0 0 (by decide)
  have h2 : rstE2 M L h40 rs = 0 := h0 1 (by decide)
  have h3 : rstE3 M L h40 rs = 0 := h0 2 (by decide)
  unfold rstE rstM
  rw [if_neg (not_not_intro h1), if_neg (not_not_intro h1), if_neg (not_not_intro h2), if_neg (not_not_intro h2)]; exact ⟨h3, rfl⟩
theorem rst_next {k : Nat} (h0 : ∀ m, m < k → rstErr M L h40 rs m = 0) (hE : rstErr M L h40 rs k = 0) : ∀ m, m < k + 1 → rstErr M L h40 rs m = 0 := fun m hm => by
  rcases Nat.lt_or_ge m k with h | h
  · exact h0 m h
  · rw [show m = k by omega]; exact hE
end
theorem stay {z : World} {q o b1 b3 : Nat} {v : Value} {x y : Option Value} (h : z.cell? ⟨b1, 0, none⟩ = x ∧ z.cell? ⟨b3, 0, none⟩ = y) (h1 : b1 ≠ q) (h3 : b3 ≠ q) : (z.setCell ⟨q, o, none⟩ v).cell? ⟨b1, 0, none⟩ = x ∧ (z.setCell ⟨q, o, none⟩ v).cell? ⟨b3, 0, none⟩ = y :=
  ⟨(World.cell?_of_block (Below.heap_setCell _ _ _ _ h1)).trans h.1, (World.cell?_of_block (Below.heap_setCell _ _ _ _ h3)).trans h.2⟩
/-- Records cloned, ahead of the stores into the log's head. -/
structure Owned (w z : World) (q p b1 b3 : Nat) (s sa : Sl) (L : LogM) (s2 : Sl) (vs2 : List Sl) (rs : List (List UInt8)) : Prop where
  below : Below w.heap.size w z
  hd : z.heap[q]? = some (.cells (L.head p s).arr 167 (0, 0))
  recs : RecsAt z (fun k => w.heap.size ≤ k) s2 vs2 rs
  lt : q < w.heap.size
  c1 : z.cell? ⟨b1, 0, none⟩ = some (.pointer (some ⟨q, 0, none⟩))
  c3 : z.cell? ⟨b3, 0, none⟩ = some (.slice sa.a sa.n sa.c)
theorem owned_log {w : World} {q p b1 b3 : Nat} {s sa s0 : Sl} {vs0 : List Sl} {L : LogM} {rs : List (List UInt8)} {Z : Nat → Prop} (hd : w.heap[q]? = some (.cells (L.head p s).arr 167 (0, 0))) (h1 : w.heap[b1]? = some (.cells #[.pointer (some ⟨q, 0, none⟩)] 92 (0, 0))) (h3 : w.heap[b3]? = some (.cells #[.slice sa.a sa.n sa.c] 102 (0, 0)))
    (hv : listsZ w Z s0 vs0 rs) (hr : rs.length ≤ 100000000) (hb : ∀ b ∈ rs, b.length ≤ 1048576) :
    Calls Try.prog 102 #[.slice s0.a s0.n s0.c] w.drew fun e z => ∃ s2 vs2, e = .returned (.slice s2.a s2.n s2.c) ∧ Owned w z q p b1 b3 s sa L s2 vs2 rs := by
  have hbd : Below w.heap.size w w.drew := (Below.refl _ w).drew
  refine (own_wal Z s0 vs0 rs w.drew (hv.keep hbd) hr (fun b hb' => by have := hb b hb'; omega)).mono ?_
  rintro e z ⟨s2, vs2, rfl, hR, hbz⟩
  have hb2 : Below w.heap.size w z := hbd.trans hbz
  exact ⟨s2, vs2, rfl, hb2, (hb2.block q (cells_known hd).2.2).trans hd, hR, (cells_known hd).2.2, ((cells_known ((hb2.block b1 (cells_known h1).2.2).trans h1)).1 0), ((cells_known ((hb2.block b3 (cells_known h3).2.2).trans h3)).1 0)⟩
theorem Owned.log {w z : World} {q p b1 b3 : Nat} {s sa s2 : Sl} {vs2 : List Sl} {L : LogM} {rs : List (List UInt8)} (h : Owned w z q p b1 b3 s sa L s2 vs2 rs) (n : Nat) (m : Int) (hm : m = (n : Int)) :
    LogAt ((z.setCell ⟨q, 2, none⟩ (.slice s2.a s2.n s2.c)).setCell ⟨q, 3, none⟩ (.int .i64 m)) (fun k => k = q ∨ w.heap.size ≤ k) q p s2 vs2 { L with recs := rs, size := n } ∧ Upd w ((z.setCell ⟨q, 2, none⟩ (.slice s2.a s2.n s2.c)).setCell ⟨q, 3, none⟩ (.int .i64 m)) (fun k => k = q) := by
  subst hm
  have hu : Upd z ((z.setCell ⟨q, 2, none⟩ (.slice s2.a s2.n s2.c)).setCell ⟨q, 3, none⟩ (.int .i64 n)) (fun k => k = q) := (Upd.setCell z ⟨q, 2, none⟩ _).trans (Upd.setCell _ ⟨q, 3, none⟩ _) (fun _ _ h => h)
  refine ⟨⟨?_, ?_, .inl rfl⟩, (Upd.of_below h.below _).trans hu (fun k _ e => e)⟩
  · rw [heap_set (heap_set h.hd 2 _) 3 _, LogM.head, LogV.set_2, LogV.set_3]
    rfl
  · have hlt := h.lt
    exact (h.recs.zoned (Y := fun k => (k = q ∨ w.heap.size ≤ k) ∧ k ≠ q) (fun k _ hz => ⟨.inr hz, by omega⟩)).upd hu (fun k hk _ e => hk.2 e)
/-- A frame put behind others, ahead of the store. -/
structure Laid (w z : World) (b3 : Nat) (sa : Sl) (V : Nat) (lb : List UInt8) (x s2 : Sl) (w4 : World) : Prop where
  run : (Builtin.append_ #[102, 102] 102 #[.slice sa.a sa.n sa.c, .slice x.a x.n x.c]).run Try.prog z = .ok (.slice s2.a s2.n s2.c) w4
  cz : z.cell? ⟨b3, 0, none⟩ = some (.slice sa.a sa.n sa.c)
  lt : b3 < z.heap.size
  hd : w4.heap[b3]? = some (.cells #[.slice sa.a sa.n sa.c] 102 (0, 0))
  own : ownB w4 (fun k => V ≤ k) s2 lb
  upd : Below V w w4
theorem lay_frame {w : World} {b3 V : Nat} {sa v : Sl} {l b : List UInt8} (h3 : w.heap[b3]? = some (.cells #[.slice sa.a sa.n sa.c] 102 (0, 0))) (ho : ownB w (fun k => V ≤ k) sa l) (hV : V ≤ w.heap.size) (hv : bytesAt w v b w.heap.size) (hb : b.length ≤ 1048576) (hl : (l ++ frameS b).length ≤ 1000000000) (lb : List UInt8) (hlb : lb = l ++ frameS b) :
    Calls Try.prog 96 #[.slice v.a v.n v.c] w.drew fun e z => ∃ x s2 w4, e = .returned (.slice x.a x.n x.c) ∧ Laid w z b3 sa V lb x s2 w4 := by
  subst hlb
  have hbd : Below w.heap.size w w.drew := (Below.refl _ w).drew
  refine (framed_wal v b w.drew (hv.below hbd) (by omega)).mono ?_
  rintro e z ⟨x, rfl, hx, hbz⟩
  have hb3 : Below w.heap.size w z := hbd.trans hbz
  have hlt := (cells_known h3).2.2
  have hz3 := (hb3.block b3 hlt).trans h3
  have hoz : ownB z (fun k => V ≤ k) sa l := ho.upd (Upd.of_below hb3 (fun _ => False)) (fun _ _ hf => hf)
  obtain ⟨i, hi, hz, hs, hbb⟩ := info_u8
  obtain ⟨s2, w4, hrun, ho2, hu2, hn2, _⟩ := run_append_B (P := Try.prog) z (fun k => V ≤ k) 102 102 102 i Try.underlying102 hi hz hs hbb sa l hoz _ (frameS b) (hx.bytes.src (src_ok hx.bytes)) (fun k hk => Nat.le_trans (Nat.le_trans hV hb3.size) hk) (by rw [← List.length_append]; omega)
  refine ⟨x, s2, w4, rfl, hrun, ?_, (cells_known hz3).2.2, ?_, ho2, (hb3.mono hV).trans (hu2.below (Nat.le_trans hV hb3.size) (fun k hk => (hoz.lt hk).1))⟩
  · rw [(cells_known hz3).1]; rfl
  · refine (hu2.block b3 (cells_known hz3).2.2 (fun e => ?_)).trans hz3
    obtain ⟨cur, hcur⟩ := hoz.block e
    rw [hz3] at hcur
    injection hcur with hcur
    injection hcur with e1 e2 e3
    exact absurd e2 (by decide)
set_option maxRecDepth 100000 in
set_option maxHeartbeats 4000000 in
theorem reset_log {w : World} {own : Nat → Nat} {i j q p : Nat} {s : Sl} {vs : List Sl} {L : LogM} {M : FsM} {V : Nat → Prop} (h40 : L.name.1.size ≤ 40) (s0 : Sl) (vs0 : List Sl) (rs : List (List UInt8)) (hij : i ≠ j) (hS : fsAt w (zn own i) p M) (hM : M.small) (hM1 : (rstM1 M L h40 rs).small) (hM2 : (rstM2 M L h40 rs).small)
    (hL : LogAt w (zn own j) q p s vs L) (hd : L.dead = false) (hv : listsZ w V s0 vs0 rs) (hV : ∀ k, V k → own k ≠ i ∧ own k ≠ j) (hb : ∀ b ∈ rs, b.length ≤ 1048576) (hsz : (framesS rs).length ≤ 100000000) :
    Calls Try.prog 45 #[.pointer (some ⟨q, 0, none⟩), .slice s0.a s0.n s0.c] w fun e w' => ∃ (own' : Nat → Nat) (s' : Sl) (vs' : List Sl), e = .returned (.int .i64 (rstE M L h40 rs)) ∧ SameO own own' w.heap.size ∧ fsAt w' (zn own' i) p (rstM M L h40 rs) ∧ LogAt w' (zn own' j) q p s' vs' (rstL M L h40 rs) ∧ Upd w w' (fun k => own k = i ∨ own k = j) := by
  obtain ⟨a0, n0, c0⟩ := s0
  have hn0 : n0 = rs.length := hv.n
  subst hn0
  have hlen := hv.len
  have hcnt := frames_count rs
  obtain ⟨V0, hV0⟩ : ∃ V0, V0 = (w.alloc (.cells #[.pointer (some ⟨q, 0, none⟩)] 92)).alloc (.cells #[.slice none 0 0] 102) := ⟨_, rfl⟩
  have hbV : Below w.heap.size w V0 := hV0 ▸ ((Below.refl _ w).alloc (Nat.le_refl _) _).alloc (by simp) _
  have hVs : V0.heap.size = w.heap.size + 1 + 1 := by rw [hV0]; simp
  obtain ⟨b1, hb1⟩ : ∃ b1, b1 = w.heap.size := ⟨_, rfl⟩
  obtain ⟨b3, hb3⟩ : ∃ b3, b3 = b1 + 1 := ⟨_, rfl⟩
  have hk1 : V0.heap[b1]? = some (.cells #[.pointer (some ⟨q, 0, none⟩)] 92 (0, 0)) := by
    rw [hV0, hb1]
    exact (heap_alloc_old (w.alloc (.cells #[.pointer (some ⟨q, 0, none⟩)] 92)) _ w.heap.size (by simp)).trans (heap_alloc_new w _)
  have hk3 : V0.heap[b3]? = some (.cells #[.slice none 0 0] 102 (0, 0)) := by
    rw [hV0, hb3, hb1, show w.heap.size + 1 = (w.alloc (.cells #[.pointer (some ⟨q, 0, none⟩)] 92)).heap.size by simp]
    exact heap_alloc_new _ _
  have hlV := hL.keep hbV
  have hdead := dead_log hlV
  rw [hd] at hdead
  have hvV := (hv.zone (Y := fun k => V k ∧ k < w.heap.size) (fun k hk hz => ⟨hz, hk⟩)).keep hbV
  have HVL := Lib.hid hvV
  have HK1 := Lib.hid hk1
  have HK3 := Lib.hid hk3
  have HBV := Lib.hid hbV
  have HVS := Lib.hid hVs
  have HS := Lib.hid hS
  have HL := Lib.hid hL
  have HB := Lib.hid hb
  have HD := Lib.hid hd
  clear hS hL hv hvV hk1 hk3 hbV hVs hlV hb hd
  go_enter Try.func45, Try.ntmps45
  go_wp2_with fail
  rw [← hV0, ← hb1]
  rw [← hb3]
  have hb13 : b1 < b3 := by omega
  have hw1 : w.heap.size ≤ b1 := by omega
  have hVs3 : V0.heap.size ≤ b3 + 1 := by have := HVS.out; omega
  have hVs4 : b3 < V0.heap.size := by have := HVS.out; omega
  clear hV0 hb1 hb3
  go_loop [16] (fun v => ∃ k : Nat, k ≤ rs.length ∧ v = .int .i64 k) (fun v => rs.length - (intOf v).toNat)
  case atStart => exact ⟨0, Nat.zero_le _, rfl⟩
  case round =>
    obtain ⟨k, hk, rfl⟩ := hrel
    by_cases hlt : k < rs.length
    · obtain ⟨b, off, ha, _, hbl, hc⟩ := HVL.out.cells (by intro e; rw [e] at hlt; simp at hlt)
      simp only at ha
      subst ha
      have hc1 := hc k (by omega)
      have hn1 := (HVL.out.el k hlt (by omega)).1
      have hbk := HB.out _ (List.getElem_mem hlt)
      obtain ⟨v, hv⟩ : ∃ v, v = vs0[k]'(by omega) := ⟨_, rfl⟩
      rw [← hv] at hc1 hn1
      have dlt : decide ((k : Int) < (rs.length : Int)) = true := decide_eq_true (by omega)
      have dn : decide ((1048576 : Int) < (v.n : Int)) = false := decide_eq_false (by omega)
      clear hc hn1 hbk hv hdead
      go_wp2_with fail
      go_round
      case rel => exact ⟨k + 1, by omega, by go_num⟩
      case measure => simp [intOf]; omega
    · have hkN : k = rs.length := by omega
      subst hkN
      have dlt : decide ((rs.length : Int) < (rs.length : Int)) = false := decide_eq_false (by omega)
      have ck1 : V0.cell? ⟨b1, 0, none⟩ = some (.pointer (some ⟨q, 0, none⟩)) := (cells_known HK1.out).1 0
      go_wp2_with (go_at_call 49; refine hdead.mono ?_; rintro e w1 ⟨rfl, rfl⟩)
      clear hdead ck1 dlt
      go_loopw [28] (fun v28 wr => ∃ (k : Nat) (sa : Sl), k ≤ rs.length ∧ v28 = .int .i64 k ∧ wr.heap[b3]? = some (.cells #[.slice sa.a sa.n sa.c] 102 (0, 0)) ∧ ownB wr (fun j => V0.heap.size ≤ j) sa (framesS (rs.take k)) ∧ Upd V0 wr (fun j => j = b3)) (fun v _ => rs.length - (intOf v).toNat)
      case atStart => exact ⟨0, ⟨none, 0, 0⟩, Nat.zero_le _, rfl, HK3.out, ownB_nil _ _, Upd.refl _ _⟩
      case round =>
        obtain ⟨k, sa, hk, rfl, h3, ho, hu⟩ := hrel
        by_cases hlt : k < rs.length
        · have hvr := HVL.out.upd hu (fun j hj _ e => by have := hj.2; omega)
          obtain ⟨b, off, ha, _, hbl, hc⟩ := hvr.cells (by intro e; rw [e] at hlt; simp at hlt)
          simp only at ha
          subst ha
          have hc1 := hc k (by omega)
          have hel := hvr.el k hlt (by omega)
          obtain ⟨v, hv⟩ : ∃ v, v = vs0[k]'(by omega) := ⟨_, rfl⟩
          obtain ⟨x, hx⟩ : ∃ x, x = rs[k] := ⟨_, rfl⟩
          rw [← hv] at hc1 hel
          rw [← hx] at hel
          have hft : framesS (rs.take (k + 1)) = framesS (rs.take k) ++ frameS x := by rw [List.take_succ_eq_append_getElem hlt, framesS_append, framesS_one, hx]
          have hfl : (framesS (rs.take (k + 1))).length ≤ 100000000 := by
            have : framesS rs = framesS (rs.take (k + 1)) ++ framesS (rs.drop (k + 1)) := by rw [← framesS_append, List.take_append_drop]
            rw [this, List.length_append] at hsz; omega
          have hcl := lay_frame h3 ho hu.size hel.at (by rw [hx]; exact HB.out _ (List.getElem_mem hlt)) (by rw [← hft]; omega) _ hft
          have dlt : decide ((k : Int) < (rs.length : Int)) = true := decide_eq_true (by omega)
          have c3 : wr.cell? ⟨b3, 0, none⟩ = some (.slice sa.a sa.n sa.c) := (cells_known h3).1 0
          have HU := Lib.hid hu
          have HO := Lib.hid ho
          have H3 := Lib.hid h3
          clear hvr hel hx hv hft hfl hc h3 ho hu
          go_upto_region 13 with fail
          go_region_law (first | (refine step_run rfl (.tmp 32) (.tmp 34) _ _ rfl _ _ (by simp [Act.eval, Act.put]) (by simp [Act.eval, Act.put]) HP.out.run ?_) | (go_simp; go_at_call 96; refine hcl.mono ?_; rintro e z ⟨y, s2, w4, rfl, hP⟩; have hz1 := hP.lt; have hz2 := hP.cz; have hc42 : w4.cell? ⟨b3, 0, none⟩ = some (.slice sa.a sa.n sa.c) := ((cells_known hP.hd).1 0); have hf42 := (cells_known hP.hd).2.1 0; have HP := Lib.hid hP; clear hP))
          all_goals
            go_wp2_with fail
            have hd4 := heap_set HP.out.hd 0 (.slice s2.a s2.n s2.c)
            have hne : ∀ g, s2.own = some g → g ≠ b3 := fun g hg e => by
              obtain ⟨cur, hcur⟩ := HP.out.own.block hg
              exact apart_type hcur HP.out.hd (by decide) e
            have hoo := HP.out.own.upd (Upd.setCell w4 ⟨b3, 0, none⟩ (.slice s2.a s2.n s2.c)) hne
            have huu : Upd V0 (w4.setCell ⟨b3, 0, none⟩ (.slice s2.a s2.n s2.c)) (fun j => j = b3) :=
              (HU.out.trans (⟨HP.out.upd.os, HP.out.upd.tape, HP.out.upd.output, HP.out.upd.size, fun g _ hs => HP.out.upd.block g (by omega)⟩ : Upd wr w4 (fun g => V0.heap.size ≤ g)) (fun g hg e => by omega)).trans (Upd.setCell w4 ⟨b3, 0, none⟩ _) (fun _ _ e => e)
            go_roundw
            case rel => exact ⟨k + 1, s2, by omega, by go_num, hd4, hoo, huu⟩
            case measure => simp [intOf]; omega
        · have hkN : k = rs.length := by omega
          subst hkN
          rw [List.take_length] at ho
          have dlt : decide ((rs.length : Int) < (rs.length : Int)) = false := decide_eq_false (by omega)
          obtain ⟨X, hX⟩ : ∃ X, X = wr := ⟨_, rfl⟩
          subst hX
          have hqw : q < w.heap.size := HL.out.lt
          have hLb : LogAt V0 (fun k => own k = j ∧ k < w.heap.size) q p s vs L := (HL.out.zoned (fun k hk hz => ⟨hz, hk⟩)).keep HBV.out
          have hLX := hLb.upd hu (fun k hz _ e => by have := hz.2; omega)
          have hSX : fsAt X (fun k => own k = i ∧ k < w.heap.size) p M := ((HS.out.zone (T := fun k => own k = i ∧ k < w.heap.size) (fun k hk hz => ⟨hz, hk⟩)).below HBV.out).upd hu (fun k hz _ e => by have := hz.2; omega)
          have h1X := (hu.block b1 (by omega) (fun e => by omega)).trans HK1.out
          have ck1 : X.cell? ⟨b1, 0, none⟩ = some (.pointer (some ⟨q, 0, none⟩)) := (cells_known h1X).1 0
          obtain ⟨c0', c1', c2', c3', c4'⟩ := hLX.cell
          have HLX := Lib.hid hLX
          have HSX := Lib.hid hSX
          have H1X := Lib.hid h1X
          have H3X := Lib.hid h3
          have HOX := Lib.hid ho
          have HUX := Lib.hid hu
          clear hLb hLX hSX h1X h3 ho hu c0' c2' c3' c4'
          go_upto_block 5 with fail
          obtain ⟨b2, hb2⟩ : ∃ b2, b2 = X.heap.size := ⟨_, rfl⟩
          rw [← hb2]
          obtain ⟨W3, hW3⟩ : ∃ W3, W3 = (X.alloc (.cells #[.string (L.name.1 ++ ⟨#[46, 110, 101, 119]⟩)] 9)).alloc (.cells #[.func (.func 103) #[] #[.pointer (some ⟨b1, 0, none⟩), .pointer (some ⟨b2, 0, none⟩), .pointer (some ⟨b3, 0, none⟩)], .func (.func 104) #[] #[.pointer (some ⟨b1, 0, none⟩), .pointer (some ⟨b2, 0, none⟩)], .func (.func 105) #[] #[.pointer (some ⟨b1, 0, none⟩), .pointer (some ⟨b2, 0, none⟩)]] 68) := ⟨_, rfl⟩
          rw [← hW3]
          have hbX : Below X.heap.size X W3 := hW3 ▸ ((Below.refl _ X).alloc (Nat.le_refl _) _).alloc (by simp) _
          have hk2 : W3.heap[b2]? = some (.cells #[.string (L.name.1 ++ ⟨#[46, 110, 101, 119]⟩)] 9 (0, 0)) := by
            rw [hW3, hb2]
            exact (heap_alloc_old (X.alloc (.cells #[.string (L.name.1 ++ ⟨#[46, 110, 101, 119]⟩)] 9)) _ X.heap.size (by simp)).trans (heap_alloc_new X _)
          have hk4 : W3.heap[b2 + 1]? = some (.cells #[.func (.func 103) #[] #[.pointer (some ⟨b1, 0, none⟩), .pointer (some ⟨b2, 0, none⟩), .pointer (some ⟨b3, 0, none⟩)], .func (.func 104) #[] #[.pointer (some ⟨b1, 0, none⟩), .pointer (some ⟨b2, 0, none⟩)], .func (.func 105) #[] #[.pointer (some ⟨b1, 0, none⟩), .pointer (some ⟨b2, 0, none⟩)]] 68 (0, 0)) := by
            rw [hW3, hb2, show X.heap.size + 1 = (X.alloc (.cells #[.string (L.name.1 ++ ⟨#[46, 110, 101, 119]⟩)] 9)).heap.size by simp]
            exact heap_alloc_new _ _
          have hXs : V0.heap.size ≤ X.heap.size := HUX.out.size
          have hL3 := HLX.out.keep hbX
          have hS3 := HSX.out.below hbX
          have h13 := (hbX.block b1 (by omega)).trans H1X.out
          have h33 := (hbX.block b3 (by omega)).trans H3X.out
          have ho3 : ownB W3 (fun j => V0.heap.size ≤ j) sa (framesS rs) := HOX.out.upd (Upd.of_below hbX (fun _ => False)) (fun _ _ hf => hf)
          have hU3 : Upd w W3 (fun g => own g = i ∨ own g = j) := ((Upd.of_below HBV.out (fun _ => False)).trans (HUX.out.trans (Upd.of_below hbX (fun _ => False)) (fun _ _ hf => hf.elim)) (fun g hg e => by have e2 : g = b3 := e; omega)).mono (fun _ _ hf => hf.elim)
          have hb2w : w.heap.size ≤ b2 := by omega
          have hb2W : b2 + 1 < W3.heap.size := (cells_known hk4).2.2
          have HBXW := Lib.hid hbX
          have HL3 := Lib.hid hL3
          have H13 := Lib.hid h13
          have H33 := Lib.hid h33
          have HO3 := Lib.hid ho3
          have HU3 := Lib.hid hU3
          have HK2 := Lib.hid hk2
          have HK4 := Lib.hid hk4
          have hXW : X.heap.size ≤ W3.heap.size := hbX.size
          clear hW3 hbX hL3 h13 h33 ho3 hU3 hk2 hk4 HLX HSX H1X H3X HOX hb2
          go_loopw [47] (fun v wr => ∃ k : Nat, k ≤ 3 ∧ v = .int .i64 k ∧ fsAt wr (fun g => (own g = i ∧ g < w.heap.size) ∨ W3.heap.size ≤ g) p (rstAt M L h40 rs k) ∧ Upd W3 wr (fun g => own g = i ∧ g < w.heap.size) ∧ Hid (∀ m, m < k → rstErr M L h40 rs m = 0)) (fun v _ => 3 - (intOf v).toNat)
          case atStart => exact ⟨0, by omega, rfl, hS3.zone (fun g _ hz => .inl hz), Upd.refl _ _, fun m hm => absurd hm (by omega)⟩
          case round =>
            obtain ⟨k, hk, rfl, hSk, huk, hek⟩ := hrel
            clear hS3
            have hLk := HL3.out.upd huk (fun g hz _ e => hij (e.1.symm.trans hz.1))
            have g1 := (huk.block b1 (by omega) (fun e => by omega)).trans H13.out
            have g2 := (huk.block b2 (by omega) (fun e => by omega)).trans HK2.out
            have g3 := (huk.block b3 (by omega) (fun e => by omega)).trans H33.out
            have g4 := (huk.block (b2 + 1) hb2W (fun e => by omega)).trans HK4.out
            have d1 : wr.cell? ⟨b1, 0, none⟩ = some (.pointer (some ⟨q, 0, none⟩)) := (cells_known g1).1 0
            have d2 : wr.cell? ⟨b2, 0, none⟩ = some (.string (tmpN L.name h40).1) := (cells_known g2).1 0
            have d3 : wr.cell? ⟨b3, 0, none⟩ = some (.slice sa.a sa.n sa.c) := (cells_known g3).1 0
            have f0 : wr.cell? ⟨b2 + 1, 0, none⟩ = some (.func (.func 103) #[] #[.pointer (some ⟨b1, 0, none⟩), .pointer (some ⟨b2, 0, none⟩), .pointer (some ⟨b3, 0, none⟩)]) := (cells_known g4).1 0
            have f1 : wr.cell? ⟨b2 + 1, 1, none⟩ = some (.func (.func 104) #[] #[.pointer (some ⟨b1, 0, none⟩), .pointer (some ⟨b2, 0, none⟩)]) := (cells_known g4).1 1
            have f2 : wr.cell? ⟨b2 + 1, 2, none⟩ = some (.func (.func 105) #[] #[.pointer (some ⟨b1, 0, none⟩), .pointer (some ⟨b2, 0, none⟩)]) := (cells_known g4).1 2
            have hok : ownB wr (fun j => V0.heap.size ≤ j) sa (framesS rs) := HO3.out.upd huk (fun g hg e => by have := (HO3.out.lt hg).1; omega)
            have hk4' : k = 0 ∨ k = 1 ∨ k = 2 ∨ k = 3 := by omega
            rcases hk4' with rfl | rfl | rfl | rfl
            · clear f1 f2
              have hact : Calls Try.prog 103 #[.pointer (some ⟨b1, 0, none⟩), .pointer (some ⟨b2, 0, none⟩), .pointer (some ⟨b3, 0, none⟩)] wr fun e w' => e = .returned (.int .i64 (rstErr M L h40 rs 0)) ∧ fsAt w' (more (fun g => (own g = i ∧ g < w.heap.size) ∨ W3.heap.size ≤ g) wr) p (rstAt M L h40 rs (0 + 1)) ∧ Upd wr w' (fun g => (own g = i ∧ g < w.heap.size) ∨ W3.heap.size ≤ g) := act1 _ (rstAt M L h40 rs 0) (tmpN L.name h40) sa (framesS rs) L s d1 d2 d3 hok.bytes hok.2.1 (by omega) hLk.hd hSk hM
              have hstop := rst_stop (k := 0) (by decide) hek.out
              have hnext := rst_next (k := 0) hek.out
              obtain ⟨E, hE⟩ : ∃ E, E = rstErr M L h40 rs 0 := ⟨_, rfl⟩
              rw [← hE] at hact hstop hnext
              have HST := Lib.hid hstop
              have HNX := Lib.hid hnext
              have HE := Lib.hid hE
              have HUK := Lib.hid huk
              have HLK := Lib.hid hLk
              clear hstop hnext hE huk hLk hSk g1 g2 g3 g4 d2 d3 hok
              by_cases h0 : E = 0
              · subst h0
                go_wp2_with fail
                refine hact.mono ?_
                rintro e w5 ⟨rfl, a1, a2⟩
                have a1' : fsAt w5 (fun g => (own g = i ∧ g < w.heap.size) ∨ W3.heap.size ≤ g) p (rstAt M L h40 rs (0 + 1)) := a1.zone (fun g _ hz => hz.elim id (fun h => .inr (Nat.le_trans HUK.out.size h)))
                have a2' : Upd W3 w5 (fun g => own g = i ∧ g < w.heap.size) := HUK.out.trans a2 (fun g hg e => e.resolve_right (by omega))
                have A1 := Lib.hid a1'
                have A2 := Lib.hid a2'
                clear hact a1 a2 a1' a2'
                go_wp2_with fail
                go_roundw
                case rel => exact ⟨0 + 1, by omega, by go_num, A1.out, A2.out, HNX.out trivial⟩
                case measure => simp [intOf]
              · have t1 : (E == 0) = false := by rw [beq_eq_false_iff_ne]; exact h0
                have H0 := Lib.hid h0
                clear h0
                go_wp2_with fail
                refine hact.mono ?_
                rintro e w5 ⟨rfl, a1, a2⟩
                have hL5 := HLK.out.upd a2 (fun g hz _ e => e.elim (fun e => hij (e.1.symm.trans hz.1)) (fun e => by have := hz.2; omega))
                have hU5 : Upd w w5 (fun g => own g = i ∨ own g = j) := (HU3.out.trans HUK.out (fun g hg e => .inl e.1)).trans a2 (fun g hg e => .inl (e.resolve_right (by omega)).1)
                have hfe := fail_end (w := w) E hij a1 (fun g hz => hz.elim (fun hz => hz.imp (fun e => e.1) (fun e => by omega)) (fun h => .inr (by have := HUK.out.size; omega))) hL5 hU5
                have g5 : w5.cell? ⟨b1, 0, none⟩ = some (.pointer (some ⟨q, 0, none⟩)) := (a2.cell (Nat.lt_of_lt_of_le (show b1 < W3.heap.size by omega) HUK.out.size) (fun e => e.elim (fun e => by omega) (fun e => by omega)) 0).trans d1
                clear hact a1 a2 hL5 hU5
                go_wp2_with fail
                refine hfe.mono ?_
                rintro e w6 ⟨rfl, own', b1', b2', b3', b4'⟩
                go_wp2_with fail
                go_ret
                obtain ⟨t2, t3⟩ := HST.out H0.out
                exact ⟨own', s, vs, by rw [t2]; rfl, b1', by rw [t3]; exact b2', by unfold rstL; rw [t2, if_neg H0.out]; exact b3', b4'⟩
            · clear f0 f2
              have hact : Calls Try.prog 104 #[.pointer (some ⟨b1, 0, none⟩), .pointer (some ⟨b2, 0, none⟩)] wr fun e w' => e = .returned (.int .i64 (rstErr M L h40 rs 1)) ∧ fsAt w' (more (fun g => (own g = i ∧ g < w.heap.size) ∨ W3.heap.size ≤ g) wr) p (rstAt M L h40 rs (1 + 1)) ∧ Upd wr w' (fun g => (own g = i ∧ g < w.heap.size) ∨ W3.heap.size ≤ g) := act2 _ (rstAt M L h40 rs 1) (tmpN L.name h40) L s d1 d2 hLk.hd hSk hM1
              have hstop := rst_stop (k := 1) (by decide) hek.out
              have hnext := rst_next (k := 1) hek.out
              obtain ⟨E, hE⟩ : ∃ E, E = rstErr M L h40 rs 1 := ⟨_, rfl⟩
              rw [← hE] at hact hstop hnext
              have HST := Lib.hid hstop
              have HNX := Lib.hid hnext
              have HE := Lib.hid hE
              have HUK := Lib.hid huk
              have HLK := Lib.hid hLk
              clear hstop hnext hE huk hLk hSk g1 g2 g3 g4 d2 d3 hok
              by_cases h0 : E = 0
              · subst h0
                go_wp2_with fail
                refine hact.mono ?_
                rintro e w5 ⟨rfl, a1, a2⟩
                have a1' : fsAt w5 (fun g => (own g = i ∧ g < w.heap.size) ∨ W3.heap.size ≤ g) p (rstAt M L h40 rs (1 + 1)) := a1.zone (fun g _ hz => hz.elim id (fun h => .inr (Nat.le_trans HUK.out.size h)))
                have a2' : Upd W3 w5 (fun g => own g = i ∧ g < w.heap.size) := HUK.out.trans a2 (fun g hg e => e.resolve_right (by omega))
                have A1 := Lib.hid a1'
                have A2 := Lib.hid a2'
                clear hact a1 a2 a1' a2'
                go_wp2_with fail
                go_roundw
                case rel => exact ⟨1 + 1, by omega, by go_num, A1.out, A2.out, HNX.out trivial⟩
                case measure => simp [intOf]
              · have t1 : (E == 0) = false := by rw [beq_eq_false_iff_ne]; exact h0
                have H0 := Lib.hid h0
                clear h0
                go_wp2_with fail
                refine hact.mono ?_
                rintro e w5 ⟨rfl, a1, a2⟩
                have hL5 := HLK.out.upd a2 (fun g hz _ e => e.elim (fun e => hij (e.1.symm.trans hz.1)) (fun e => by have := hz.2; omega))
                have hU5 : Upd w w5 (fun g => own g = i ∨ own g = j) := (HU3.out.trans HUK.out (fun g hg e => .inl e.1)).trans a2 (fun g hg e => .inl (e.resolve_right (by omega)).1)
                have hfe := fail_end (w := w) E hij a1 (fun g hz => hz.elim (fun hz => hz.imp (fun e => e.1) (fun e => by omega)) (fun h => .inr (by have := HUK.out.size; omega))) hL5 hU5
                have g5 : w5.cell? ⟨b1, 0, none⟩ = some (.pointer (some ⟨q, 0, none⟩)) := (a2.cell (Nat.lt_of_lt_of_le (show b1 < W3.heap.size by omega) HUK.out.size) (fun e => e.elim (fun e => by omega) (fun e => by omega)) 0).trans d1
                clear hact a1 a2 hL5 hU5
                go_wp2_with fail
                refine hfe.mono ?_
                rintro e w6 ⟨rfl, own', b1', b2', b3', b4'⟩
                go_wp2_with fail
                go_ret
                obtain ⟨t2, t3⟩ := HST.out H0.out
                exact ⟨own', s, vs, by rw [t2]; rfl, b1', by rw [t3]; exact b2', by unfold rstL; rw [t2, if_neg H0.out]; exact b3', b4'⟩
            · clear f0 f1
              have hact : Calls Try.prog 105 #[.pointer (some ⟨b1, 0, none⟩), .pointer (some ⟨b2, 0, none⟩)] wr fun e w' => e = .returned (.int .i64 (rstErr M L h40 rs 2)) ∧ fsAt w' (more (fun g => (own g = i ∧ g < w.heap.size) ∨ W3.heap.size ≤ g) wr) p (rstAt M L h40 rs (2 + 1)) ∧ Upd wr w' (fun g => (own g = i ∧ g < w.heap.size) ∨ W3.heap.size ≤ g) := act3 _ (rstAt M L h40 rs 2) (tmpN L.name h40) L s d1 d2 hLk.hd hSk hM2
              have hstop := rst_stop (k := 2) (by decide) hek.out
              have hnext := rst_next (k := 2) hek.out
              obtain ⟨E, hE⟩ : ∃ E, E = rstErr M L h40 rs 2 := ⟨_, rfl⟩
              rw [← hE] at hact hstop hnext
              have HST := Lib.hid hstop
              have HNX := Lib.hid hnext
              have HE := Lib.hid hE
              have HUK := Lib.hid huk
              have HLK := Lib.hid hLk
              clear hstop hnext hE huk hLk hSk g1 g2 g3 g4 d2 d3 hok
              by_cases h0 : E = 0
              · subst h0
                go_wp2_with fail
                refine hact.mono ?_
                rintro e w5 ⟨rfl, a1, a2⟩
                have a1' : fsAt w5 (fun g => (own g = i ∧ g < w.heap.size) ∨ W3.heap.size ≤ g) p (rstAt M L h40 rs (2 + 1)) := a1.zone (fun g _ hz => hz.elim id (fun h => .inr (Nat.le_trans HUK.out.size h)))
                have a2' : Upd W3 w5 (fun g => own g = i ∧ g < w.heap.size) := HUK.out.trans a2 (fun g hg e => e.resolve_right (by omega))
                have A1 := Lib.hid a1'
                have A2 := Lib.hid a2'
                clear hact a1 a2 a1' a2'
                go_wp2_with fail
                go_roundw
                case rel => exact ⟨2 + 1, by omega, by go_num, A1.out, A2.out, HNX.out trivial⟩
                case measure => simp [intOf]
              · have t1 : (E == 0) = false := by rw [beq_eq_false_iff_ne]; exact h0
                have H0 := Lib.hid h0
                clear h0
                go_wp2_with fail
                refine hact.mono ?_
                rintro e w5 ⟨rfl, a1, a2⟩
                have hL5 := HLK.out.upd a2 (fun g hz _ e => e.elim (fun e => hij (e.1.symm.trans hz.1)) (fun e => by have := hz.2; omega))
                have hU5 : Upd w w5 (fun g => own g = i ∨ own g = j) := (HU3.out.trans HUK.out (fun g hg e => .inl e.1)).trans a2 (fun g hg e => .inl (e.resolve_right (by omega)).1)
                have hfe := fail_end (w := w) E hij a1 (fun g hz => hz.elim (fun hz => hz.imp (fun e => e.1) (fun e => by omega)) (fun h => .inr (by have := HUK.out.size; omega))) hL5 hU5
                have g5 : w5.cell? ⟨b1, 0, none⟩ = some (.pointer (some ⟨q, 0, none⟩)) := (a2.cell (Nat.lt_of_lt_of_le (show b1 < W3.heap.size by omega) HUK.out.size) (fun e => e.elim (fun e => by omega) (fun e => by omega)) 0).trans d1
                clear hact a1 a2 hL5 hU5
                go_wp2_with fail
                refine hfe.mono ?_
                rintro e w6 ⟨rfl, own', b1', b2', b3', b4'⟩
                go_wp2_with fail
                go_ret
                obtain ⟨t2, t3⟩ := HST.out H0.out
                exact ⟨own', s, vs, by rw [t2]; rfl, b1', by rw [t3]; exact b2', by unfold rstL; rw [t2, if_neg H0.out]; exact b3', b4'⟩
            · obtain ⟨t2, t3⟩ := rst_done (M := M) (L := L) (h40 := h40) (rs := rs) hek.out
              have hvr : listsZ wr (fun g => V g ∧ g < w.heap.size) ⟨a0, rs.length, c0⟩ vs0 rs := by
                exact ((HVL.out.upd HUX.out (fun g hg _ e => by have := hg.2; omega)).keep HBXW.out).upd huk (fun g hg _ e => (hV g hg.1).1 e.1)
              have hcl := owned_log (b1 := b1) (b3 := b3) (sa := sa) hLk.hd g1 g3 hvr (by omega) HB.out
              have hsan : sa.n = (framesS rs).length := hok.1
              have hLr : Hid (rstL M L h40 rs = { L with recs := rs, size := (framesS rs).length }) := by unfold Hid rstL; rw [t2, if_pos rfl]
              have HT := Lib.hid (And.intro t2 t3)
              have HUK := Lib.hid huk
              have HSK := Lib.hid hSk
              have HLK := Lib.hid hLk
              have HSA := Lib.hid hsan
              clear f0 f1 f2 g1 g2 g3 g4 d2 hok hvr t2 t3 huk hSk hLk hsan
              go_upto_region 23 with fail
              have hq1 : b1 ≠ q := by omega
              have hq3 : b3 ≠ q := by omega
              have hS0 : wr.drew.cell? ⟨b1, 0, none⟩ = some (.pointer (some ⟨q, 0, none⟩)) ∧ wr.drew.cell? ⟨b3, 0, none⟩ = some (.slice sa.a sa.n sa.c) := ⟨d1, d3⟩
              go_region_held3 (fun X : World => X.cell? ⟨b1, 0, none⟩ = some (.pointer (some ⟨q, 0, none⟩)) ∧ X.cell? ⟨b3, 0, none⟩ = some (.slice sa.a sa.n sa.c)) (first | exact hS0 | exact hS1 | exact stay hS1 hq1 hq3 | exact stay (stay hS1 hq1 hq3) hq1 hq3) ((go_at_call 102; refine hcl.mono ?_; rintro e z ⟨s2, vs2, rfl, hP⟩; have hS1 : z.cell? ⟨b1, 0, none⟩ = some (.pointer (some ⟨q, 0, none⟩)) ∧ z.cell? ⟨b3, 0, none⟩ = some (.slice sa.a sa.n sa.c) := ⟨hP.c1, hP.c3⟩; have hc42 : z.cell? ⟨q, 2, none⟩ = some (.slice s.a s.n s.c) := ((cells_known hP.hd).1 2).trans (LogV.arr_2 _); have hc43 : z.cell? ⟨q, 3, none⟩ = some (.int .i64 L.size) := ((cells_known hP.hd).1 3).trans (LogV.arr_3 _); have hf42 := (cells_known hP.hd).2.1 2; have hf43 := (cells_known hP.hd).2.1 3; have HP := Lib.hid hP; clear hP))
              go_wp2_with fail
              go_ret
              obtain ⟨t2, t3⟩ := HT.out
              obtain ⟨hLF, hUF⟩ := HP.out.log (framesS rs).length ((sa.n : Int)) (by rw [HSA.out])
              have hqz := HLK.out.zone
              have hwW : w.heap.size ≤ wr.heap.size := by have := HUK.out.size; omega
              refine ⟨setO (setO own w.heap.size i) wr.heap.size j, s2, vs2, by rw [t2]; rfl, fun g hg => ?_, ?_, ?_, ?_⟩
              · rw [setO_old (by omega), setO_old hg]
              · rw [t3]
                have hS4 : fsAt wr (fun g => setO (setO own w.heap.size i) wr.heap.size j g = i) p (rstAt M L h40 rs 3) := HSK.out.zone (fun g hg hz => by
                  rw [setO_old hg]
                  by_cases hlt : g < w.heap.size
                  · rw [setO_old hlt]; exact (hz.resolve_right (by omega)).1
                  · rw [setO_new (by omega)])
                refine hS4.upd hUF (fun g hz hg e => ?_)
                have e2 : g = q := e
                subst e2
                rw [setO_old hg, setO_old hqz.2] at hz
                exact hij (hz.symm.trans hqz.1)
              · rw [hLr.out]
                refine hLF.zoned (fun g hg hz => ?_)
                show setO (setO own w.heap.size i) wr.heap.size j g = j
                rcases hz with hz | hz
                · rw [hz, setO_old (Nat.lt_of_lt_of_le hqz.2 hwW), setO_old hqz.2]; exact hqz.1
                · rw [setO_new hz]
              · exact (HU3.out.trans HUK.out (fun g hg e => .inl e.1)).trans hUF (fun g hg e => .inr (by rw [show g = q from e]; exact hqz.1))
end Go.Proofs.Ytkiindgcbpkddaa
namespace Go.Proofs.Ytkiindgcbpkddaa
open Go.RowKit
section
variable {M : FsM} {L : LogM} {n : Nat}
def LogM.anew (L : LogM) (rs : List (List UInt8)) : LogM := { L with recs := rs, size := (framesS rs).length }
theorem LogOk.reset (h : LogOk M L) (hp : Pow M n) (rs : List (List UInt8)) (hb : ∀ b ∈ rs, b.length ≤ 1048576) (hsz : (framesS rs).length ≤ 16777216) :
    rstE M L h.name rs = 0 ∧ rstL M L h.name rs = L.anew rs ∧ Pow (rstM1 M L h.name rs) (n + 1) ∧ Pow (rstM2 M L h.name rs) (n + 2) ∧ Pow (rstM M L h.name rs) (n + 3) ∧ LogOk (rstM M L h.name rs) (L.anew rs) ∧ ∀ t, t ≠ L.name → t ≠ tmpN L.name h.name → (rstM M L h.name rs).files t = M.files t := by
  have hok := okName h.name h.some_
  have hot := tmp_ok L.name h.name
  have hne := tmp_ne L.name h.name
  obtain ⟨a1, a2, a3⟩ := hp.append (s := tmpN L.name h.name) (l := framesS rs) hot (by rw [h.tmp]; simpa using hsz)
  rw [h.tmp] at a3
  have e1 : rstE1 M L h.name rs = 0 := a1
  have hx : (rstM1 M L h.name rs).files (tmpN L.name h.name) = some (framesS rs, 0) := by
    show (appM M (tmpN L.name h.name) (framesS rs)).files _ = _
    rw [a3]; simp
  obtain ⟨b1, b2, b3⟩ := Pow.sync (M := rstM1 M L h.name rs) a2 hot hx
  have e2 : rstE2 M L h.name rs = 0 := b1
  have hy : (rstM2 M L h.name rs).files (tmpN L.name h.name) = some (framesS rs, (framesS rs).length) := by
    show (syncM (rstM1 M L h.name rs) (tmpN L.name h.name)).files _ = _
    rw [b3]; simp
  obtain ⟨c1, c2, c3⟩ := Pow.rename (M := rstM2 M L h.name rs) b2 hot hok hy
  have e3 : rstE3 M L h.name rs = 0 := c1
  obtain ⟨d1, d2⟩ := rst_done (M := M) (L := L) (h40 := h.name) (rs := rs) (fun m hm => by
    match m, hm with
    | 0, _ => exact e1
    | 1, _ => exact e2
    | 2, _ => exact e3)
  have hM3 : rstM M L h.name rs = renameM (rstM2 M L h.name rs) (tmpN L.name h.name) L.name := d2
  have hL : rstL M L h.name rs = L.anew rs := by unfold rstL; rw [d1, if_pos rfl]; rfl
  refine ⟨d1, hL, a2, b2, by rw [hM3]; exact c2, ?_, ?_⟩
  · refine ⟨h.name, h.some_, h.live, .inr ?_, rfl, ?_, hb⟩
    · rw [hM3, c3]; exact if_pos rfl
    · rw [hM3, c3]
      show (if tmpN L.name h.name = L.name then _ else if tmpN L.name h.name = tmpN L.name h.name then none else _) = none
      rw [if_neg hne, if_pos rfl]
  · intro t h1 h2
    rw [hM3, c3]
    show (if t = L.name then _ else if t = tmpN L.name h.name then none else (rstM2 M L h.name rs).files t) = _
    rw [if_neg h1, if_neg h2]
    show (syncM (rstM1 M L h.name rs) (tmpN L.name h.name)).files t = _
    rw [b3]
    show (if t = tmpN L.name h.name then _ else (appM M (tmpN L.name h.name) (framesS rs)).files t) = _
    rw [if_neg h2, a3]
    exact if_neg h2
theorem log_reset {w : World} {own : Nat → Nat} {i j q p : Nat} {V : Nat → Prop} (s0 : Sl) (vs0 : List Sl) (rs : List (List UInt8)) (hij : i ≠ j) (hF : fsAt w (zn own i) p M) (hP : Pow M n) (hL : OneLog w own j q p L) (hO : LogOk M L) (hn : n + 3 ≤ 1000000000) (hv : listsZ w V s0 vs0 rs) (hV : ∀ k, V k → own k ≠ i ∧ own k ≠ j)
    (hb : ∀ b ∈ rs, b.length ≤ 1048576) (hsz : (framesS rs).length ≤ 16777216) :
    Calls Try.prog 45 #[.pointer (some ⟨q, 0, none⟩), .slice s0.a s0.n s0.c] w fun e w' => e = .returned (.int .i64 0) ∧ ∃ own', SameO own own' w.heap.size ∧ fsAt w' (zn own' i) p (rstM M L hO.name rs) ∧ OneLog w' own' j q p (L.anew rs) ∧ Upd w w' (fun k => own k = i ∨ own k = j) := by
  obtain ⟨s, vs, hL⟩ := hL
  obtain ⟨a1, a2, a3, a4, a5, a6, a7⟩ := hO.reset hP rs hb hsz
  refine (reset_log hO.name s0 vs0 rs hij hF (hP.small (by omega)) (a3.small (by omega)) (a4.small (by omega)) hL hO.live hv hV hb (by omega)).mono ?_
  rintro e w' ⟨own', s', vs', rfl, b1, b2, b3, b4⟩
  rw [a2] at b3
  exact ⟨by rw [a1], own', b1, b2, ⟨s', vs', b3⟩, b4⟩
end
/-- Names that do not meet. -/
structure Names2 (s t : Nm) (hs : s.1.size ≤ 40) (ht : t.1.size ≤ 40) : Prop where
  a : s ≠ t
  b : s ≠ tmpN t ht
  c : tmpN s hs ≠ t
  d : tmpN s hs ≠ tmpN t ht
theorem Names2.swap {s t : Nm} {hs : s.1.size ≤ 40} {ht : t.1.size ≤ 40} (h : Names2 s t hs ht) : Names2 t s ht hs := ⟨h.a.symm, h.c.symm, h.b.symm, h.d.symm⟩
/-- Two logs in one place. -/
structure Duo (W0 w : World) (own : Nat → Nat) (p : Nat) (M : FsM) (n ja qa : Nat) (La : LogM) (jb qb : Nat) (Lb : LogM) : Prop where
  fs : fsAt w (zn own 1) p M
  pow : Pow M n
  la : OneLog w own ja qa p La
  lb : OneLog w own jb qb p Lb
  oa : LogOk M La
  ob : LogOk M Lb
  names : Names2 La.name Lb.name oa.name ob.name
  j : ja ≠ 0 ∧ ja ≠ 1 ∧ jb ≠ 0 ∧ jb ≠ 1 ∧ ja ≠ jb
  fresh : Fresh own W0.heap.size
  below : Below W0.heap.size W0 w
section
variable {W0 w w' : World} {own : Nat → Nat} {p : Nat} {M : FsM} {n ja qa : Nat} {La : LogM} {jb qb : Nat} {Lb : LogM}
theorem Duo.swap (h : Duo W0 w own p M n ja qa La jb qb Lb) : Duo W0 w own p M n jb qb Lb ja qa La :=
  ⟨h.fs, h.pow, h.lb, h.la, h.ob, h.oa, h.names.swap, ⟨h.j.2.2.1, h.j.2.2.2.1, h.j.1, h.j.2.1, h.j.2.2.2.2.symm⟩, h.fresh, h.below⟩
theorem Duo.keep (h : Duo W0 w own p M n ja qa La jb qb Lb) (hb : Below w.heap.size w w') : Duo W0 w' own p M n ja qa La jb qb Lb :=
  ⟨h.fs.below hb, h.pow, h.la.keep hb, h.lb.keep hb, h.oa, h.ob, h.names, h.j, h.fresh, h.below.trans (hb.mono h.below.size)⟩
theorem Duo.retag (h : Duo W0 w own p M n ja qa La jb qb Lb) : Duo W0 w (setO own w.heap.size 0) p M n ja qa La jb qb Lb :=
  ⟨h.fs.retag (Nat.le_refl _) 0, h.pow, h.la.retag (Nat.le_refl _) 0, h.lb.retag (Nat.le_refl _) 0, h.oa, h.ob, h.names, h.j, h.fresh.setO h.below.size 0, h.below⟩
theorem Duo.append {V : Nat → Prop} {v : Sl} {b : List UInt8} (h : Duo W0 w own p M n ja qa La jb qb Lb) (hn : n + 2 ≤ 1000000000) (hv : bytesZ w V v b) (hV : ∀ k, V k → own k = 0) (hb : b.length ≤ 1048576) (hsz : (framesS (La.recs ++ [b])).length ≤ 16777216) :
    Calls Try.prog 43 #[.pointer (some ⟨qa, 0, none⟩), .slice v.a v.n v.c] w fun e w' => e = .returned (.int .i64 0) ∧ ∃ own', Duo W0 w' own' p (wapM M La b) (n + 2) ja qa (La.put b) jb qb Lb := by
  obtain ⟨j1, j2, j3, j4, j5⟩ := h.j
  obtain ⟨a1, a2, a3, a4, a5, a6⟩ := h.oa.append h.pow b hb hsz
  rw [a2] at a5
  refine (log_append (i := 1) (j := ja) j2.symm h.fs h.pow h.la h.oa hn hv (fun k hk => by rw [hV k hk]; exact ⟨by decide, j1.symm⟩) hb hsz).mono ?_
  rintro e w' ⟨rfl, own', b1, b2, b3, b4⟩
  have hob : LogOk (wapM M La b) Lb := h.ob.other (a6 _ h.names.a.symm) (a6 _ h.names.b.symm)
  exact ⟨rfl, own', b2, a4, b3, h.lb.upd b1 b4 (fun k hk e => e.elim (fun e => j4 (hk.symm.trans e)) (fun e => j5 (e.symm.trans hk))), a5, hob, h.names, h.j, h.fresh.same b1 h.below.size, h.below.trans (h.fresh.below2 b4 (by decide) j1 h.below.size)⟩
theorem Duo.reset {V : Nat → Prop} (s0 : Sl) (vs0 : List Sl) (rs : List (List UInt8)) (h : Duo W0 w own p M n ja qa La jb qb Lb) (hn : n + 3 ≤ 1000000000) (hv : listsZ w V s0 vs0 rs) (hV : ∀ k, V k → own k = 0) (hb : ∀ b ∈ rs, b.length ≤ 1048576) (hsz : (framesS rs).length ≤ 16777216) :
    Calls Try.prog 45 #[.pointer (some ⟨qa, 0, none⟩), .slice s0.a s0.n s0.c] w fun e w' => e = .returned (.int .i64 0) ∧ ∃ own', Duo W0 w' own' p (rstM M La h.oa.name rs) (n + 3) ja qa (La.anew rs) jb qb Lb := by
  obtain ⟨j1, j2, j3, j4, j5⟩ := h.j
  obtain ⟨a1, a2, a3, a4, a5, a6, a7⟩ := h.oa.reset h.pow rs hb hsz
  refine (log_reset (i := 1) (j := ja) s0 vs0 rs j2.symm h.fs h.pow h.la h.oa hn hv (fun k hk => by rw [hV k hk]; exact ⟨by decide, j1.symm⟩) hb hsz).mono ?_
  rintro e w' ⟨rfl, own', b1, b2, b3, b4⟩
  have hob : LogOk (rstM M La h.oa.name rs) Lb := h.ob.other (a7 _ h.names.a.symm h.names.c.symm) (a7 _ h.names.b.symm h.names.d.symm)
  exact ⟨rfl, own', b2, a5, b3, h.lb.upd b1 b4 (fun k hk e => e.elim (fun e => j4 (hk.symm.trans e)) (fun e => j5 (e.symm.trans hk))), a6, hob, h.names, h.j, h.fresh.same b1 h.below.size, h.below.trans (h.fresh.below2 b4 (by decide) j1 h.below.size)⟩
end
end Go.Proofs.Ytkiindgcbpkddaa
