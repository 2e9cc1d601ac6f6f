/- WalCrash: one log under a cut: a turn. -/
import Derived.Test.YtkiindgcbpkddaaWalD
set_option linter.unusedSimpArgs false
set_option linter.unusedVariables false
namespace Go.Proofs.Ytkiindgcbpkddaa
open Go.RowKit Go.Sort
/-- One log in a place, the power going or not. -/
structure Uno (W0 w : World) (own : Nat → Nat) (p : Nat) (M : FsM) (n j q : Nat) (L : LogM) : Prop where
  fs : fsAt w (zn own 1) p M
  lit : Lit M n
  log : OneLog w own j q p L
  j : j ≠ 0 ∧ j ≠ 1
  fresh : Fresh own W0.heap.size
  below : Below W0.heap.size W0 w
section
variable {W0 w w' : World} {own : Nat → Nat} {p : Nat} {M : FsM} {n j q : Nat} {L : LogM}
theorem Uno.keep (h : Uno W0 w own p M n j q L) (hb : Below w.heap.size w w') : Uno W0 w' own p M n j q L :=
  ⟨h.fs.below hb, h.lit, h.log.keep hb, h.j, h.fresh, h.below.trans (hb.mono h.below.size)⟩
theorem Uno.retag (h : Uno W0 w own p M n j q L) : Uno W0 w (setO own w.heap.size 0) p M n j q L :=
  ⟨h.fs.retag (Nat.le_refl _) 0, h.lit, h.log.retag (Nat.le_refl _) 0, h.j, h.fresh.setO h.below.size 0, h.below⟩
theorem Uno.mono (h : Uno W0 w own p M n j q L) {m : Nat} (hm : n ≤ m) : Uno W0 w own p M m j q L := ⟨h.fs, h.lit.mono hm, h.log, h.j, h.fresh, h.below⟩
theorem Uno.append {V : Nat → Prop} {v : Sl} {b : List UInt8} (h : Uno W0 w own p M n j q L) (hO : LogOk M L) (hn : n + 2 ≤ 1000000000) (hv : bytesZ w V v b) (hV : ∀ k, V k → own k = 0) (hb : b.length ≤ 1048576) (hsz : (framesS (L.recs ++ [b])).length ≤ 16777216) :
    Calls Try.prog 43 #[.pointer (some ⟨q, 0, none⟩), .slice v.a v.n v.c] w fun e w' => e = .returned (.int .i64 (wapE M L b)) ∧ ∃ own', Uno W0 w' own' p (wapM M L b) (n + 2) j q (wapL M L b) ∧ Keep0 own own' w w' := by
  obtain ⟨j1, j2⟩ := h.j
  obtain ⟨s, vs, hL⟩ := h.log
  have hc := frames_count (L.recs ++ [b])
  have hfl : (framesS L.recs).length ≤ 16777216 := by rw [framesS_append, List.length_append] at hsz; omega
  refine (append_log (i := 1) (j := j) v b V j2.symm h.fs (h.lit.small (by omega)) ((h.lit.append _ _).small (by omega)) hL hO.live (by rw [hO.size]; omega) (by simp at hc; omega) hv (fun k hk => by rw [hV k hk]; exact ⟨by decide, j1.symm⟩) (by unfold bigB; exact decide_eq_false (by omega))).mono ?_
  rintro e w' ⟨own', s', vs', rfl, b1, b2, b3, b4⟩
  exact ⟨rfl, own', ⟨b2, h.lit.wap L b, ⟨s', vs', b3⟩, h.j, h.fresh.same b1 h.below.size, h.below.trans (h.fresh.below2 b4 (by decide) j1 h.below.size)⟩,
    b1, b4.mono (fun k _ e => e.elim (fun e => by rw [e]; decide) (fun e => by rw [e]; exact j1))⟩
theorem Uno.reset {V : Nat → Prop} (s0 : Sl) (vs0 : List Sl) (rs : List (List UInt8)) (h : Uno W0 w own p M n j q L) (hO : LogOk M L) (hn : n + 3 ≤ 1000000000) (hv : listsZ w V s0 vs0 rs) (hV : ∀ k, V k → own k = 0) (hb : ∀ b ∈ rs, b.length ≤ 1048576) (hsz : (framesS rs).length ≤ 16777216) :
    Calls Try.prog 45 #[.pointer (some ⟨q, 0, none⟩), .slice s0.a s0.n s0.c] w fun e w' => e = .returned (.int .i64 (rstE M L hO.name rs)) ∧ ∃ own', Uno W0 w' own' p (rstM M L hO.name rs) (n + 3) j q (rstL M L hO.name rs) ∧ Keep0 own own' w w' := by
  obtain ⟨j1, j2⟩ := h.j
  obtain ⟨s, vs, hL⟩ := h.log
  obtain ⟨c1, c2, c3⟩ := h.lit.rst L hO.name rs
  refine (reset_log (i := 1) (j := j) hO.name s0 vs0 rs j2.symm h.fs (h.lit.small (by omega)) (c1.small (by omega)) (c2.small (by omega)) hL hO.live hv (fun k hk => by rw [hV k hk]; exact ⟨by decide, j1.symm⟩) hb (by omega)).mono ?_
  rintro e w' ⟨own', s', vs', rfl, b1, b2, b3, b4⟩
  exact ⟨rfl, own', ⟨b2, c3, ⟨s', vs', b3⟩, h.j, h.fresh.same b1 h.below.size, h.below.trans (h.fresh.below2 b4 (by decide) j1 h.below.size)⟩,
    b1, b4.mono (fun k _ e => e.elim (fun e => by rw [e]; decide) (fun e => by rw [e]; exact j1))⟩
def UnoPost (W0 w : World) (own : Nat → Nat) (p n j q : Nat) (L : LogM) (t : Turn) (e : Ending) (w' : World) : Prop :=
  ∃ own' M' L', Uno W0 w' own' p M' (n + 3) j q L' ∧ L'.name = L.name ∧ Keep0 own own' w w' ∧ ((e = .returned (.int .i64 0) ∧ LogOk M' L' ∧ L'.recs = thenS L.recs t) ∨ (e = .returned (.int .i64 7) ∧ L'.dead = true ∧ GoneAt M' L.name L.recs (thenS L.recs t)))
set_option maxRecDepth 100000 in
set_option maxHeartbeats 4000000 in
theorem now_cut {jj : Nat} (t : Turn) (h : Uno W0 w own p M n jj q L) (hO : LogOk M L) (hn : n ≤ 1000000) (hw : t.wf) {m : Nat} (hf : Few m L.recs) (hm : m ≤ 5000) :
    Calls Try.prog 40 #[.pointer (some ⟨q, 0, none⟩), .agg t.arr] w (UnoPost W0 w own p n jj q L t) := by
  have hf5 := hf.then t
  have hfz := hf5.frames (by omega)
  obtain ⟨V, hV⟩ : ∃ V, V = w.alloc (.cells t.arr 98) := ⟨_, rfl⟩
  have hbV : Below w.heap.size w V := hV ▸ (Below.refl _ _).alloc (Nat.le_refl _) _
  have hkV : V.heap[w.heap.size]? = some (.cells t.arr 98 (0, 0)) := hV ▸ heap_alloc_new w _
  have hwV : w.heap.size < V.heap.size := (cells_known hkV).2.2
  have hD := (h.retag.keep hbV)
  have hK : Keep0 own (setO own w.heap.size 0) w V := Keep0.below hbV
  obtain ⟨kind, k, j⟩ := t
  have c0 : V.cell? ⟨w.heap.size, 0, none⟩ = some (.int .i64 kind) := ((cells_known hkV).1 0).trans (Turn.arr_0 _)
  have c1 : V.cell? ⟨w.heap.size, 1, none⟩ = some (.int .i64 k) := ((cells_known hkV).1 1).trans (Turn.arr_1 _)
  have c2 : V.cell? ⟨w.heap.size, 2, none⟩ = some (.int .i64 j) := ((cells_known hkV).1 2).trans (Turn.arr_2 _)
  have HK := Lib.hid hK
  have HD := Lib.hid hD
  have HO := Lib.hid hO
  clear h hbV hD hK hO
  by_cases h1 : kind = 1
  · subst h1
    have hS : thenS L.recs ⟨1, k, j⟩ = L.recs ++ [saidS k j] := rfl
    rw [hS] at hfz
    have HFZ := Lib.hid hfz
    have HS := Lib.hid hS
    clear hkV hf hf5 hfz hS
    go_enter Try.func40, Try.ntmps40
    go_wp2_with fail
    try rw [← hV]
    clear hV
    go_wp2_with fail
    refine (said_8 k j hw.2.2 V).mono ?_
    rintro e w2 ⟨x, rfl, hx, hb2⟩
    have hD2 := (HD.out.retag).keep hb2
    have hK2 := HK.out.trans (Keep0.below hb2)
    have hap := hD2.append HO.out (by omega) hx.z (fun g hg => setO_new hg) (by have := saidS_le k j; omega) HFZ.out
    have HD2 := Lib.hid hD2
    have HK2 := Lib.hid hK2
    clear hx hb2 hD2 hK2
    go_wp2_with fail
    refine hap.mono ?_
    rintro e w3 ⟨rfl, own3, hD3, hK3⟩
    have HC3 := Lib.hid (HO.out.append_cut (saidS k j) (by have := saidS_le k j; omega) HFZ.out)
    have HD3 := Lib.hid (hD3.mono (by omega : n + 2 ≤ n + 3))
    have HK3 := Lib.hid (HK2.out.trans hK3)
    clear hap hD3 hK3
    go_wp2_with fail
    go_ret
    rcases HC3.out with ⟨c1, c2, c3⟩ | ⟨c1, c2, c3⟩
    · exact ⟨own3, _, _, HD3.out, by rw [c2] <;> rfl, HK3.out, .inl ⟨by rw [c1] <;> rfl, by rw [c2]; exact c3, by rw [c2, HS.out] <;> rfl⟩⟩
    · exact ⟨own3, _, _, HD3.out, by rw [c2], HK3.out, .inr ⟨by rw [c1] <;> rfl, by rw [c2], by rw [HS.out]; exact c3⟩⟩
  · by_cases h2 : kind = 2
    · subst h2
      have hS : thenS L.recs ⟨2, k, j⟩ = thenS [] ⟨2, k, j⟩ := rfl
      have HF5 := Lib.hid hf5
      rw [hS] at hfz
      have HFZ := Lib.hid hfz
      have HS := Lib.hid hS
      have hth := then_8 (w := V) (Y := fun _ => False) ⟨none, 0, 0⟩ [] [] ⟨2, k, j⟩ ⟨rfl, Nat.le_refl _, rfl, fun h => absurd rfl h, fun g h => absurd h (by simp)⟩ (by simp) hw
      have d1 : decide ((2 : Int) = 1) = false := rfl
      clear hf hf5 hfz hS
      go_enter Try.func40, Try.ntmps40
      go_wp2_with fail
      try rw [← hV]
      clear hV
      go_wp2_with fail
      refine hth.mono ?_
      rintro e w2 ⟨s2, vs2, rfl, hl2, hb2⟩
      rw [← HS.out] at hl2 HFZ
      have hD2 := (HD.out.retag).keep hb2
      have hK2 := HK.out.trans (Keep0.below hb2)
      have hap := hD2.reset s2 vs2 _ HO.out (by omega) hl2 (fun g hg => hg.elim (fun h => h.elim) (fun h => setO_new h)) HF5.out.low HFZ.out
      have HD2 := Lib.hid hD2
      have HK2 := Lib.hid hK2
      clear hl2 hb2 hK2 hth
      go_wp2_with fail
      refine hap.mono ?_
      rintro e w3 ⟨rfl, own3, hD3, hK3⟩
      have HC3 := Lib.hid (HO.out.reset_cut _ HF5.out.low HFZ.out)
      have HD3 := Lib.hid hD3
      have HK3 := Lib.hid (HK2.out.trans hK3)
      clear hap hD3 hK3
      go_wp2_with fail
      go_ret
      rcases HC3.out with ⟨c1, c2, c3⟩ | ⟨c1, c2, c3⟩
      · exact ⟨own3, _, _, HD3.out, by rw [c2] <;> rfl, HK3.out, .inl ⟨by rw [c1] <;> rfl, by rw [c2]; exact c3, by rw [c2] <;> rfl⟩⟩
      · exact ⟨own3, _, _, HD3.out, by rw [c2], HK3.out, .inr ⟨by rw [c1] <;> rfl, by rw [c2], .inl c3⟩⟩
    · have d1 : decide (kind = 1) = false := decide_eq_false h1
      have d2 : decide (kind = 2) = false := decide_eq_false h2
      have hS : thenS L.recs ⟨kind, k, j⟩ = L.recs := by unfold thenS; rw [if_neg (by simpa using h1), if_neg (by simpa using h2)]
      have HS := Lib.hid hS
      clear hkV hf hf5 hfz hS
      go_enter Try.func40, Try.ntmps40
      go_wp2_with fail
      try rw [← hV]
      clear hV
      go_wp2_with fail
      go_ret
      exact ⟨_, _, L, HD.out.mono (by omega), rfl, HK.out, .inl ⟨rfl, HO.out, HS.out.symm⟩⟩
theorem Uno.dead (h : Uno W0 w own p M n j q L) : Calls Try.prog 49 #[.pointer (some ⟨q, 0, none⟩)] w fun e w' => e = .returned (.bool L.dead) ∧ w = w' := by
  obtain ⟨s, vs, hL⟩ := h.log
  exact dead_log hL
theorem Uno.off (h : Uno W0 w own p M n j q L) (hd : L.dead = true) : Calls Try.prog 43 #[.pointer (some ⟨q, 0, none⟩), .slice none 0 0] w fun e w' => e = .returned (.int .i64 7) ∧ w = w' := by
  have h1 := h.dead
  rw [hd] at h1
  exact append_dead ⟨none, 0, 0⟩ [] rfl (by decide) _ h1
theorem more_own {own : Nat → Nat} {w : World} {i : Nat} : ∀ g, g < w.heap.size → more (zn own i) w g → own g = i := fun g hg hz => hz.elim (fun h => h) (fun h => absurd hg (by omega))
theorem setO_more {own : Nat → Nat} {n i g : Nat} (h : own g = i ∨ n ≤ g) : setO own n i g = i := by
  by_cases hg : g < n
  · rw [setO_old hg]; exact h.resolve_right (by omega)
  · exact setO_new (by omega)
theorem Uno.cut (h : Uno W0 w own p M n j q L) (x : Int) (hx : x ≤ 9223372036854775807) :
    Calls Try.prog 48 #[.pointer (some ⟨p, 0, none⟩), .int .i64 x] w fun e w' => e = .returned (.tuple #[]) ∧ ∃ own', Uno W0 w' own' p (cutM M x) n j q L ∧ Keep0 own own' w w' := by
  obtain ⟨j1, j2⟩ := h.j
  refine (cut_fsZ x h.fs).mono ?_
  rintro e w' ⟨rfl, b2, b4⟩
  have b1 : SameO own (setO own w.heap.size 1) w.heap.size := fun g hg => setO_old hg
  have b5 : Upd w w' (fun k => own k = 1) := b4
  exact ⟨rfl, setO own w.heap.size 1, ⟨b2.zone (fun g _ hz => setO_more hz), h.lit.cut x hx, h.log.upd b1 b5 (fun k hk e => j2 (hk.symm.trans e)), h.j, h.fresh.same b1 h.below.size, h.below.trans (h.fresh.below b5 (by decide) h.below.size)⟩,
    b1, b5.mono (fun k _ e => by rw [e]; decide)⟩
end
end Go.Proofs.Ytkiindgcbpkddaa
