/- What a log tells: its records, its length; no log; are these its records? -/
import Derived.Test.YtkiindgcbpkddaaWalI
set_option linter.unusedSimpArgs false
set_option linter.unusedVariables false
namespace Go.Proofs.Ytkiindgcbpkddaa
open Go.RowKit Go.Sort
section
variable {w w' : World} {Z : Nat → Prop} {q p : Nat} {s : Sl} {vs : List Sl} {L : LogM}
theorem records_log (h : LogAt w Z q p s vs L) (hr : L.recs.length ≤ 100000000) (hl : ∀ b ∈ L.recs, b.length ≤ 100000000) : Calls Try.prog 44 #[.pointer (some ⟨q, 0, none⟩)] w fun e w' => ∃ (s' : Sl) (vs' : List Sl), e = .returned (.slice s'.a s'.n s'.c) ∧ RecsAt w' (fun k => w.heap.size ≤ k) s' vs' L.recs ∧ Below w.heap.size w w' := by
  have hn := none_log h
  have c2 := h.cell.2.2.1
  have ho := own_wal _ s vs L.recs w h.recs.lists hr hl
  clear h
  go_enter Try.func44, Try.ntmps44
  go_wp2_with (first | (go_at_call 101; refine hn.mono ?_; rintro e w1 ⟨rfl, rfl⟩) | (go_at_call 102; refine ho.mono ?_; rintro e w2 ⟨s', vs', rfl, a1, a2⟩))
  go_ret
  exact ⟨s', vs', rfl, a1, a2⟩
theorem bytes_log (h : LogAt w Z q p s vs L) : Calls Try.prog 47 #[.pointer (some ⟨q, 0, none⟩)] w fun e w' => e = .returned (.int .i64 L.size) ∧ w = w' := by
  have hn := none_log h
  have c3 := h.cell.2.2.2.1
  clear h
  go_enter Try.func47, Try.ntmps47
  go_wp2_with (go_at_call 101; refine hn.mono ?_; rintro e w1 ⟨rfl, rfl⟩)
  go_ret
  exact ⟨rfl, rfl⟩
theorem records_nolog (w : World) : Calls Try.prog 44 #[.pointer none] w fun e w' => e = .returned (.slice none 0 0) ∧ w = w' := by
  have hn := none_nolog w
  go_enter Try.func44, Try.ntmps44
  go_wp2_with (go_at_call 101; refine hn.mono ?_; rintro e w1 ⟨rfl, rfl⟩)
  go_ret
  exact ⟨rfl, rfl⟩
theorem append_nolog (w : World) : Calls Try.prog 43 #[.pointer none, .slice none 0 0] w fun e w' => e = .returned (.int .i64 7) ∧ w = w' :=
  append_dead ⟨none, 0, 0⟩ [] rfl rfl (.pointer none) (dead_nolog w)
theorem takes_eq {A B : List (List UInt8)} {k : Nat} (hl : A.length = B.length) (h : A.take k = B.take k) (hk : A.length ≤ k) : A = B := by
  rw [List.take_of_length_le hk, List.take_of_length_le (by omega)] at h; exact h
theorem takes_succ {A B : List (List UInt8)} {k : Nat} (h : A.take k = B.take k) (ha : k < A.length) (hb : k < B.length) (he : A[k] = B[k]) : A.take (k + 1) = B.take (k + 1) := by
  rw [List.take_succ_eq_append_getElem ha, List.take_succ_eq_append_getElem hb, h, he]
set_option maxRecDepth 100000 in
set_option maxHeartbeats 1000000 in
theorem has_log {Y : Nat → Prop} (ws : Sl) (wvs : List Sl) (want : List (List UInt8)) (h : LogAt w Z q p s vs L) (hr : L.recs.length ≤ 100000000) (hl : ∀ b ∈ L.recs, b.length ≤ 100000000) (hw : listsZ w Y ws wvs want) :
    Calls Try.prog 42 #[.pointer (some ⟨q, 0, none⟩), .slice ws.a ws.n ws.c] w fun e w' => e = .returned (.bool (decide (L.recs = want))) ∧ Below w.heap.size w w' := by
  have hrc := records_log h hr hl
  obtain ⟨wa, wn, wc⟩ := ws
  have hwn : wn = want.length := hw.n
  subst hwn
  have hwl := hw.len
  have HW := Lib.hid hw
  clear h hw
  go_enter Try.func42, Try.ntmps42
  go_wp2_with fail
  refine hrc.mono ?_
  rintro e W ⟨⟨ra, rn, rc⟩, rvs, rfl, hR, hbW⟩
  have hrn : rn = L.recs.length := hR.n
  subst hrn
  have hRl := hR.lists
  have hrl := hRl.len
  have HR := Lib.hid hRl
  have HBW := Lib.hid hbW
  clear hrc hR hRl hbW
  by_cases hne : L.recs.length = want.length
  · have de : ((L.recs.length : Int) == (want.length : Int)) = true := by rw [beq_iff_eq, hne]
    have HNE := Lib.hid hne
    have hle : want.length ≤ L.recs.length := by omega
    have hle2 : L.recs.length ≤ want.length := by omega
    clear hne
    go_wp2_with fail
    go_loopw [6] (fun v wr => ∃ k : Nat, k ≤ L.recs.length ∧ v = .int .i64 k ∧ Hid (L.recs.take k = want.take k) ∧ Below W.heap.size W wr) (fun v _ => L.recs.length - (intOf v).toNat)
    case atStart => exact ⟨0, Nat.zero_le _, rfl, rfl, Below.refl _ _⟩
    case round =>
      obtain ⟨k, hk, rfl, htk, hb⟩ := hrel
      by_cases hlt : k < L.recs.length
      · have hlt2 : k < want.length := by omega
        obtain ⟨b1, o1, ha1, _, hb1, hc1⟩ := HR.out.cells (by intro e; rw [e] at hlt; simp at hlt)
        obtain ⟨b2, o2, ha2, _, hb2, hc2⟩ := HW.out.cells (by intro e; rw [e] at hlt2; simp at hlt2)
        simp only at ha1 ha2
        subst ha1 ha2
        have e1 := (HR.out.el k hlt (by omega)).keep hb
        have e2 := ((HW.out.el k hlt2 (by omega)).keep HBW.out).keep hb
        have cc1 := (hb.cell (p := ⟨b1, o1 + k, none⟩) hb1).trans (hc1 k (by omega))
        have cc2 := (hb.cell (p := ⟨b2, o2 + k, none⟩) (Nat.lt_of_lt_of_le hb2 HBW.out.size)).trans ((HBW.out.cell (p := ⟨b2, o2 + k, none⟩) hb2).trans (hc2 k (by omega)))
        obtain ⟨u1, hu1⟩ : ∃ u, u = rvs[k]'(by omega) := ⟨_, rfl⟩
        obtain ⟨u2, hu2⟩ : ∃ u, u = wvs[k]'(by omega) := ⟨_, rfl⟩
        obtain ⟨x1, hx1⟩ : ∃ x, x = L.recs[k] := ⟨_, rfl⟩
        obtain ⟨x2, hx2⟩ : ∃ x, x = want[k] := ⟨_, rfl⟩
        rw [← hu1] at cc1 e1
        rw [← hu2] at cc2 e2
        rw [← hx1] at e1
        rw [← hx2] at e2
        have hlb1 : b1 < wr.heap.size := Nat.lt_of_lt_of_le hb1 hb.size
        have hlb2 : b2 < wr.heap.size := Nat.lt_of_lt_of_le (Nat.lt_of_lt_of_le hb2 HBW.out.size) hb.size
        have hs1 : ∀ (d : Nat) (os : Array Obj), (convert 102 9 (.slice u1.a u1.n u1.c)).run Try.prog (grow (redrawn wr d) os) = .ok (.string ⟨x1.toArray⟩) (grow (redrawn wr d) os) := fun d os => bytesAt_str (e1.keep (below_regrown wr d os)).at
        have hs2 : ∀ (d : Nat) (os : Array Obj), (convert 102 9 (.slice u2.a u2.n u2.c)).run Try.prog (grow (redrawn wr d) os) = .ok (.string ⟨x2.toArray⟩) (grow (redrawn wr d) os) := fun d os => bytesAt_str (e2.keep (below_regrown wr d os)).at
        have HX1 := Lib.hid hx1
        have HX2 := Lib.hid hx2
        have dlt : decide ((k : Int) < (L.recs.length : Int)) = true := decide_eq_true (by omega)
        clear hx1 hx2 hu1 hu2 e1 e2 hc1 hc2
        by_cases hx : x1 = x2
        · have hxb : (x1 == x2) = true := by rw [beq_iff_eq]; exact hx
          have HX := Lib.hid hx
          clear hx
          go_wp2_with fail
          refine wp_region_below (by kernel_rfl) (by kernel_rfl) ?_
          repeat (go_big_quiet_step ((fail)))
          refine wpQuiet_nil ?_
          intro w2 hb_w2
          obtain ⟨hc_w2, hf_w2, hr_w2⟩ := bcell hb_w2
          go_wp2_with fail
          go_roundw
          case rel => exact ⟨k + 1, by omega, by go_num, takes_succ htk.out hlt hlt2 (by rw [← HX1.out, ← HX2.out, HX.out]), hb.trans (hb_w2.mono hb.size)⟩
          case measure => simp [intOf]; omega
        · have hxb : (x1 == x2) = false := by rw [beq_eq_false_iff_ne]; exact hx
          have HX := Lib.hid hx
          clear hx
          go_wp2_with fail
          refine wp_region_below (by kernel_rfl) (by kernel_rfl) ?_
          repeat (go_big_quiet_step ((fail)))
          refine wpQuiet_nil ?_
          intro w2 hb_w2
          obtain ⟨hc_w2, hf_w2, hr_w2⟩ := bcell hb_w2
          have hne : Hid (¬ L.recs = want) := fun e => HX.out (by rw [HX1.out, HX2.out]; simp only [e])
          go_wp2_with fail
          go_ret
          exact ⟨by rw [decide_eq_false hne.out]; rfl, HBW.out.trans ((hb.trans (hb_w2.mono hb.size)).mono HBW.out.size)⟩
      · have HE : Hid (L.recs = want) := takes_eq HNE.out htk.out (by omega)
        go_wp2_with fail
        go_ret
        exact ⟨by rw [decide_eq_true HE.out]; rfl, HBW.out.trans (hb.mono HBW.out.size)⟩
  · have de : ((L.recs.length : Int) == (want.length : Int)) = false := by rw [beq_eq_false_iff_ne]; omega
    have HE : Hid (¬ L.recs = want) := fun e => hne (by rw [e])
    clear hne
    go_wp2_with fail
    go_ret
    exact ⟨by rw [decide_eq_false HE.out]; rfl, HBW.out⟩
end
end Go.Proofs.Ytkiindgcbpkddaa
