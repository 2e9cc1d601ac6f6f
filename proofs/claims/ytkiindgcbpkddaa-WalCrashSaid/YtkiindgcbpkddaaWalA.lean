/- Package coraclelaw8: a turn at one of two logs. -/
import Derived.Test.YtkiindgcbpkddaaWalZ
set_option linter.unusedSimpArgs false
set_option linter.unusedVariables false
namespace Go.Proofs.Ytkiindgcbpkddaa
open Go.RowKit
theorem frames_bnd (m : Nat) : ∀ (rs : List (List UInt8)), (∀ b ∈ rs, b.length ≤ m) → (framesS rs).length ≤ rs.length * (m + 17)
  | [], _ => by simp [framesS]
  | b :: rs, h => by
    have e : framesS (b :: rs) = frameS b ++ framesS rs := by simp [framesS]
    have ih := frames_bnd m rs (fun x hx => h x (by simp [hx]))
    have hb := h b (by simp)
    have hp := putS_le b.length
    rw [e, List.length_append, frameS_length, List.length_cons, Nat.add_mul]
    omega
/-- Records that are short and few. -/
def Few (m : Nat) (l : List (List UInt8)) : Prop := l.length ≤ m ∧ ∀ b ∈ l, b.length ≤ 400
theorem Few.then {m : Nat} {l : List (List UInt8)} (h : Few m l) (t : Turn) : Few (m + 5) (thenS l t) := by
  unfold thenS
  split
  · refine ⟨by simp; have := h.1; omega, fun b hb => ?_⟩
    rcases List.mem_append.1 hb with h2 | h2
    · exact h.2 b h2
    · rw [List.mem_singleton.1 h2]; exact saidS_le _ _
  · split
    · refine ⟨?_, fun b hb => ?_⟩
      · simp; unfold roundS; omega
      · obtain ⟨i, _, rfl⟩ := List.mem_map.1 hb; exact saidS_le _ _
    · exact ⟨by have := h.1; omega, h.2⟩
theorem Few.frames {m : Nat} {l : List (List UInt8)} (h : Few m l) (hm : m ≤ 10000) : (framesS l).length ≤ 16777216 := by
  have h1 := frames_bnd 400 l h.2
  have h2 : l.length * (400 + 17) ≤ 10000 * 417 := Nat.mul_le_mul_right _ (Nat.le_trans h.1 hm)
  omega
theorem Few.low {m : Nat} {l : List (List UInt8)} (h : Few m l) : ∀ b ∈ l, b.length ≤ 1048576 := fun b hb => by have := h.2 b hb; omega
/-- What is nobody's stays. -/
structure Keep0 (own own' : Nat → Nat) (w w' : World) : Prop where
  same : SameO own own' w.heap.size
  upd : Upd w w' (fun k => own k ≠ 0)
theorem Keep0.lists {own own' : Nat → Nat} {w w' : World} {s : Sl} {vs : List Sl} {l : List (List UInt8)} (k : Keep0 own own' w w') (h : listsZ w (fun k => own k = 0) s vs l) : listsZ w' (fun k => own' k = 0) s vs l :=
  ((h.zone (Y := fun g => own g = 0 ∧ g < w.heap.size) (fun g hg hz => ⟨hz, hg⟩)).upd k.upd (fun g hz _ hn => hn hz.1)).zone (fun g _ hz => (k.same g hz.2).trans hz.1)
theorem Keep0.trans {o1 o2 o3 : Nat → Nat} {w1 w2 w3 : World} (h : Keep0 o1 o2 w1 w2) (k : Keep0 o2 o3 w2 w3) : Keep0 o1 o3 w1 w3 :=
  ⟨fun g hg => (k.same g (Nat.lt_of_lt_of_le hg h.upd.size)).trans (h.same g hg), h.upd.trans k.upd (fun g hg hn => by rw [h.same g hg] at hn; exact hn)⟩
theorem Keep0.below {own : Nat → Nat} {w w' : World} (h : Below w.heap.size w w') : Keep0 own (setO own w.heap.size 0) w w' := ⟨fun g hg => setO_old hg, Upd.of_below h _⟩
theorem Keep0.on {own : Nat → Nat} {w w' : World} (h : Below w.heap.size w w') : Keep0 own own w w' := ⟨fun g hg => rfl, Upd.of_below h _⟩
section
variable {W0 w w' : World} {own : Nat → Nat} {p : Nat} {M : FsM} {n ja qa : Nat} {La : LogM} {jb qb : Nat} {Lb : LogM}
theorem Duo.mono (h : Duo W0 w own p M n ja qa La jb qb Lb) {m : Nat} (hm : n ≤ m) : Duo W0 w own p M m ja qa La jb qb Lb := ⟨h.fs, h.pow.mono hm, h.la, h.lb, h.oa, h.ob, h.names, h.j, h.fresh, h.below⟩
theorem Duo.appendK {V : Nat → Prop} {v : Sl} {b : List UInt8} (h : Duo W0 w own p M n ja qa La jb qb Lb) (hn : n + 2 ≤ 1000000000) (hv : bytesZ w V v b) (hV : ∀ k, V k → own k = 0) (hb : b.length ≤ 1048576) (hsz : (framesS (La.recs ++ [b])).length ≤ 16777216) :
    Calls Try.prog 43 #[.pointer (some ⟨qa, 0, none⟩), .slice v.a v.n v.c] w fun e w' => e = .returned (.int .i64 0) ∧ ∃ own', Duo W0 w' own' p (wapM M La b) (n + 2) ja qa (La.put b) jb qb Lb ∧ Keep0 own own' w w' := by
  obtain ⟨j1, j2, j3, j4, j5⟩ := h.j
  obtain ⟨a1, a2, a3, a4, a5, a6⟩ := h.oa.append h.pow b hb hsz
  rw [a2] at a5
  refine (log_append (i := 1) (j := ja) j2.symm h.fs h.pow h.la h.oa hn hv (fun k hk => by rw [hV k hk]; exact ⟨by decide, j1.symm⟩) hb hsz).mono ?_
  rintro e w' ⟨rfl, own', b1, b2, b3, b4⟩
  have hob : LogOk (wapM M La b) Lb := h.ob.other (a6 _ h.names.a.symm) (a6 _ h.names.b.symm)
  exact ⟨rfl, own', ⟨b2, a4, b3, h.lb.upd b1 b4 (fun k hk e => e.elim (fun e => j4 (hk.symm.trans e)) (fun e => j5 (e.symm.trans hk))), a5, hob, h.names, h.j, h.fresh.same b1 h.below.size, h.below.trans (h.fresh.below2 b4 (by decide) j1 h.below.size)⟩,
    b1, b4.mono (fun k _ e => e.elim (fun e => by rw [e]; decide) (fun e => by rw [e]; exact j1))⟩
theorem Duo.resetK {V : Nat → Prop} (s0 : Sl) (vs0 : List Sl) (rs : List (List UInt8)) (h : Duo W0 w own p M n ja qa La jb qb Lb) (hn : n + 3 ≤ 1000000000) (hv : listsZ w V s0 vs0 rs) (hV : ∀ k, V k → own k = 0) (hb : ∀ b ∈ rs, b.length ≤ 1048576) (hsz : (framesS rs).length ≤ 16777216) :
    Calls Try.prog 45 #[.pointer (some ⟨qa, 0, none⟩), .slice s0.a s0.n s0.c] w fun e w' => e = .returned (.int .i64 0) ∧ ∃ own' M', Duo W0 w' own' p M' (n + 3) ja qa (La.anew rs) jb qb Lb ∧ Keep0 own own' w w' := by
  obtain ⟨j1, j2, j3, j4, j5⟩ := h.j
  obtain ⟨a1, a2, a3, a4, a5, a6, a7⟩ := h.oa.reset h.pow rs hb hsz
  refine (log_reset (i := 1) (j := ja) s0 vs0 rs j2.symm h.fs h.pow h.la h.oa hn hv (fun k hk => by rw [hV k hk]; exact ⟨by decide, j1.symm⟩) hb hsz).mono ?_
  rintro e w' ⟨rfl, own', b1, b2, b3, b4⟩
  have hob : LogOk (rstM M La h.oa.name rs) Lb := h.ob.other (a7 _ h.names.a.symm h.names.c.symm) (a7 _ h.names.b.symm h.names.d.symm)
  exact ⟨rfl, own', _, ⟨b2, a5, b3, h.lb.upd b1 b4 (fun k hk e => e.elim (fun e => j4 (hk.symm.trans e)) (fun e => j5 (e.symm.trans hk))), a6, hob, h.names, h.j, h.fresh.same b1 h.below.size, h.below.trans (h.fresh.below2 b4 (by decide) j1 h.below.size)⟩,
    b1, b4.mono (fun k _ e => e.elim (fun e => by rw [e]; decide) (fun e => by rw [e]; exact j1))⟩
def NowPost (W0 w : World) (own : Nat → Nat) (p n ja qa : Nat) (La : LogM) (jb qb : Nat) (Lb : LogM) (t : Turn) (e : Ending) (w' : World) : Prop :=
  e = .returned (.int .i64 0) ∧ ∃ own' M' La', Duo W0 w' own' p M' (n + 3) ja qa La' jb qb Lb ∧ La'.recs = thenS La.recs t ∧ La'.name = La.name ∧ Keep0 own own' w w'
set_option maxRecDepth 100000 in
set_option maxHeartbeats 4000000 in
theorem now_8 (t : Turn) (h : Duo W0 w own p M n ja qa La jb qb Lb) (hn : n ≤ 1000000) (hw : t.wf) {m : Nat} (hf : Few m La.recs) (hm : m ≤ 5000) :
    Calls Try.prog 40 #[.pointer (some ⟨qa, 0, none⟩), .agg t.arr] w (NowPost W0 w own p n ja qa La jb qb Lb t) := by
  have hf5 := hf.then t
  have hfz := hf5.frames (by omega)
  obtain ⟨V, hV⟩ : ∃ V, V = w.alloc (.cells t.arr 98) := ⟨_, rfl⟩
  have hbV : Below w.heap.size w V := hV ▸ (Below.refl _ _).alloc (Nat.le_refl _) _
  have hkV : V.heap[w.heap.size]? = some (.cells t.arr 98 (0, 0)) := hV ▸ heap_alloc_new w _
  have hwV : w.heap.size < V.heap.size := (cells_known hkV).2.2
  have hD := (h.retag.keep hbV)
  have hK : Keep0 own (setO own w.heap.size 0) w V := Keep0.below hbV
  obtain ⟨kind, k, j⟩ := t
  have c0 : V.cell? ⟨w.heap.size, 0, none⟩ = some (.int .i64 kind) := ((cells_known hkV).1 0).trans (Turn.arr_0 _)
  have c1 : V.cell? ⟨w.heap.size, 1, none⟩ = some (.int .i64 k) := ((cells_known hkV).1 1).trans (Turn.arr_1 _)
  have c2 : V.cell? ⟨w.heap.size, 2, none⟩ = some (.int .i64 j) := ((cells_known hkV).1 2).trans (Turn.arr_2 _)
  have HK := Lib.hid hK
  have HD := Lib.hid hD
  clear h hbV hD hK
  by_cases h1 : kind = 1
  · subst h1
    have hS : thenS La.recs ⟨1, k, j⟩ = La.recs ++ [saidS k j] := rfl
    rw [hS] at hfz
    have HFZ := Lib.hid hfz
    have HS := Lib.hid hS
    clear hkV hf hf5 hfz hS
    go_enter Try.func40, Try.ntmps40
    go_wp2_with fail
    try rw [← hV]
    clear hV
    go_wp2_with fail
    refine (said_8 k j hw.2.2 V).mono ?_
    rintro e w2 ⟨x, rfl, hx, hb2⟩
    have hD2 := (HD.out.retag).keep hb2
    have hK2 := HK.out.trans (Keep0.below hb2)
    have hap := hD2.appendK (by omega) hx.z (fun g hg => setO_new hg) (by have := saidS_le k j; omega) HFZ.out
    have HD2 := Lib.hid hD2
    have HK2 := Lib.hid hK2
    clear hx hb2 hD2 hK2
    go_wp2_with fail
    refine hap.mono ?_
    rintro e w3 ⟨rfl, own3, hD3, hK3⟩
    have HD3 := Lib.hid (hD3.mono (by omega : n + 2 ≤ n + 3))
    have HK3 := Lib.hid (HK2.out.trans hK3)
    clear hap hD3 hK3
    go_wp2_with fail
    go_ret
    exact ⟨rfl, own3, _, La.put (saidS k j), HD3.out, HS.out.symm, rfl, HK3.out⟩
  · by_cases h2 : kind = 2
    · subst h2
      have hS : thenS La.recs ⟨2, k, j⟩ = thenS [] ⟨2, k, j⟩ := rfl
      have HF5 := Lib.hid hf5
      rw [hS] at hfz
      have HFZ := Lib.hid hfz
      have HS := Lib.hid hS
      have hth := then_8 (w := V) (Y := fun _ => False) ⟨none, 0, 0⟩ [] [] ⟨2, k, j⟩ ⟨rfl, Nat.le_refl _, rfl, fun h => absurd rfl h, fun g h => absurd h (by simp)⟩ (by simp) hw
      have d1 : decide ((2 : Int) = 1) = false := rfl
      clear hf hf5 hfz hS
      go_enter Try.func40, Try.ntmps40
      go_wp2_with fail
      try rw [← hV]
      clear hV
      go_wp2_with fail
      refine hth.mono ?_
      rintro e w2 ⟨s2, vs2, rfl, hl2, hb2⟩
      rw [← HS.out] at hl2 HFZ
      have hD2 := (HD.out.retag).keep hb2
      have hK2 := HK.out.trans (Keep0.below hb2)
      have hap := hD2.resetK s2 vs2 _ (by omega) hl2 (fun g hg => hg.elim (fun h => h.elim) (fun h => setO_new h)) HF5.out.low HFZ.out
      have HD2 := Lib.hid hD2
      have HK2 := Lib.hid hK2
      clear hl2 hb2 hD2 hK2 hth
      go_wp2_with fail
      refine hap.mono ?_
      rintro e w3 ⟨rfl, own3, M3, hD3, hK3⟩
      have HD3 := Lib.hid hD3
      have HK3 := Lib.hid (HK2.out.trans hK3)
      clear hap hD3 hK3
      go_wp2_with fail
      go_ret
      exact ⟨rfl, own3, _, La.anew _, HD3.out, rfl, rfl, HK3.out⟩
    · have d1 : decide (kind = 1) = false := decide_eq_false h1
      have d2 : decide (kind = 2) = false := decide_eq_false h2
      have hS : thenS La.recs ⟨kind, k, j⟩ = La.recs := by unfold thenS; rw [if_neg (by simpa using h1), if_neg (by simpa using h2)]
      have HS := Lib.hid hS
      clear hkV hf hf5 hfz hS
      go_enter Try.func40, Try.ntmps40
      go_wp2_with fail
      try rw [← hV]
      clear hV
      go_wp2_with fail
      go_ret
      exact ⟨rfl, _, _, La, HD.out.mono (by omega), HS.out.symm, rfl, HK.out⟩
end
end Go.Proofs.Ytkiindgcbpkddaa
