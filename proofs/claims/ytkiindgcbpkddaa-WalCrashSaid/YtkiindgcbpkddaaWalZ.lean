/- Package coraclelaw8: records behind a turn of the second kind; a turn at a log. -/
import Derived.Test.YtkiindgcbpkddaaWalY
set_option linter.unusedSimpArgs false
set_option linter.unusedVariables false
namespace Go.Proofs.Ytkiindgcbpkddaa
open Go.RowKit
set_option maxRecDepth 100000 in
set_option maxHeartbeats 4000000 in
theorem then_two {w : World} {Y : Nat → Prop} (s : Sl) (l : List (List UInt8)) (t : Turn) (hw : t.wf) (hk : t.kind = 2) :
    Calls Try.prog 41 #[.slice s.a s.n s.c, .agg t.arr] w (ThenPost w Y l t) := by
  obtain ⟨kind, n, m⟩ := t
  simp only at hk
  subst hk
  obtain ⟨_, hn, hm⟩ := hw
  simp only at hm hn
  have hS : Hid (thenS l ⟨2, n, m⟩ = (List.range (roundS n 5).toNat).map (fun i => saidS (i : Nat) (wrap64 (m + (i : Nat))))) := rfl
  obtain ⟨r, hr⟩ : ∃ r : Nat, (r : Int) = roundS n 5 := ⟨(roundS n 5).toNat, by unfold roundS; omega⟩
  have hr4 : r ≤ 5 := by unfold roundS at hr; omega
  have hrd := fun X : World => round_al n 5 hn (by decide) (by decide) X
  rw [← hr] at hrd hS
  rw [Int.toNat_natCast] at hS
  clear hr
  obtain ⟨V, hV⟩ : ∃ V, V = w.alloc (.cells (Turn.mk 2 n m).arr 98) := ⟨_, rfl⟩
  have hbV : Below w.heap.size w V := hV ▸ (Below.refl _ _).alloc (Nat.le_refl _) _
  have hkV : V.heap[w.heap.size]? = some (.cells (Turn.mk 2 n m).arr 98 (0, 0)) := hV ▸ heap_alloc_new w _
  have c0 : V.cell? ⟨w.heap.size, 0, none⟩ = some (.int .i64 2) := ((cells_known hkV).1 0).trans (Turn.arr_0 _)
  have c1 : V.cell? ⟨w.heap.size, 1, none⟩ = some (.int .i64 n) := ((cells_known hkV).1 1).trans (Turn.arr_1 _)
  have c2 : V.cell? ⟨w.heap.size, 2, none⟩ = some (.int .i64 m) := ((cells_known hkV).1 2).trans (Turn.arr_2 _)
  have hwV : w.heap.size < V.heap.size := (cells_known hkV).2.2
  have HRD := Lib.hid hrd
  have HBV := Lib.hid hbV
  clear hkV hrd hbV
  go_enter Try.func41, Try.ntmps41
  go_wp2_with fail
  try rw [← hV]
  clear hV
  go_wp2_with fail
  obtain ⟨f, hf⟩ : ∃ f : Nat → List UInt8, f = fun i => saidS (i : Nat) (wrap64 (m + (i : Nat))) := ⟨_, rfl⟩
  rw [← hf] at hS
  go_loopw [5, 6] (fun v5 v6 wr => ∃ (k : Nat) (s' : Sl) (vs' : List Sl), k ≤ r ∧ v6 = .int .i64 k ∧ v5 = .slice s'.a s'.n s'.c ∧ RecsAt wr (fun j => V.heap.size ≤ j) s' vs' ((List.range k).map f) ∧ Below V.heap.size V wr) (fun _ v _ => r - (intOf v).toNat)
  case atStart => exact ⟨0, ⟨none, 0, 0⟩, [], Nat.zero_le _, rfl, rfl, RecsAt_nil _ _, Below.refl _ _⟩
  case round =>
    obtain ⟨k, s', vs', hk, rfl, rfl, hR, hb⟩ := hrel
    have d1 : wr.cell? ⟨w.heap.size, 1, none⟩ = some (.int .i64 n) := (hb.cell (p := ⟨w.heap.size, 1, none⟩) hwV).trans c1
    have d2 : wr.cell? ⟨w.heap.size, 2, none⟩ = some (.int .i64 m) := (hb.cell (p := ⟨w.heap.size, 2, none⟩) hwV).trans c2
    have HR := Lib.hid hR
    clear hR
    by_cases hlt : k < r
    · have dlt : decide ((k : Int) < (r : Int)) = true := decide_eq_true (by omega)
      go_wp2_with (go_at_call 29; refine (HRD.out _).mono ?_; rintro e w' ⟨rfl, rfl⟩)
      have hfk : f k = saidS (k : Nat) (wrap64 (m + (k : Nat))) := by rw [hf]
      refine (said_8 (k : Nat) (wrap64 (m + (k : Nat))) (wrap64_rng _) _).mono ?_
      rintro e w2 ⟨x, rfl, hx, hb2⟩
      rw [← hfk] at hx
      have hbw2 := hb.trans (hb2.mono hb.size)
      have hbW : Below w2.heap.size w2 (w2.alloc (.cells #[.slice x.a x.n x.c] 102)) := (Below.refl _ _).alloc (Nat.le_refl _) _
      have hRW := (HR.out.keep hb2).keep hbW
      have hxW := hx.z.keep hbW
      obtain ⟨s2, w3, hrun, ho3, hn3, hu3, hnw3⟩ := own_sl1 (c := 1) hRW.own (heap_alloc_new w2 _) (Nat.zero_le _) (by simp; omega)
      have hR3 := hRW.push hxW (fun j hj e => by have := (HR.out.own.lt j e).2; have := hb2.size; omega) (by simpa using ho3) (by simpa using hn3) hu3 hnw3
      have hb3 : Below V.heap.size V w3 := (hbw2.trans (hbW.mono hbw2.size)).trans (hu3.below (by simp; exact Nat.le_trans hbw2.size (Nat.le_succ _)) (fun j hj => HR.out.zone j hj))
      have hR4 : RecsAt w3 (fun j => V.heap.size ≤ j) s2 (vs' ++ [x]) ((List.range (k + 1)).map f) := by
        rw [List.range_succ, List.map_append]
        refine hR3.zoned (fun j hj hz => ?_)
        rcases hz with hz | hz | hz
        · exact hz
        · exact Nat.le_trans hb.size hz
        · rw [hz]; exact Nat.le_trans hbw2.size (by simp)
      have hrun2 := hrun 95
      have HRUN := Lib.hid hrun2
      have HR4 := Lib.hid hR4
      clear hx hb2 hbw2 hbW hRW hxW hrun ho3 hn3 hu3 hnw3 hR3 hrun2 hR4
      go_wp2_with (refine Lib.wpList_append_run _ rfl _ _ _ _ rfl _ _ rfl rfl _ _ HRUN.out ?_)
      go_roundw
      case rel => exact ⟨k + 1, s2, vs' ++ [x], by omega, by go_num, rfl, HR4.out, hb3⟩
      case measure => simp [intOf]; omega
    · have hkN : k = r := by omega
      subst hkN
      go_wp2_with (go_at_call 29; refine (HRD.out _).mono ?_; rintro e w' ⟨rfl, rfl⟩)
      go_ret
      exact ⟨s', vs', rfl, by rw [hS.out]; exact HR.out.lists.zone (fun j _ hz => .inr (by omega)), below_then HBV.out hb⟩
set_option maxRecDepth 100000 in
set_option maxHeartbeats 4000000 in
theorem then_no {w : World} {Y : Nat → Prop} (s : Sl) (vs : List Sl) (l : List (List UInt8)) (t : Turn) (h : listsZ w Y s vs l) (hk1 : t.kind ≠ 1) (hk2 : t.kind ≠ 2) :
    Calls Try.prog 41 #[.slice s.a s.n s.c, .agg t.arr] w (ThenPost w Y l t) := by
  obtain ⟨kind, n, m⟩ := t
  simp only at hk1 hk2
  have hS : Hid (thenS l ⟨kind, n, m⟩ = l) := by unfold Hid thenS; rw [if_neg (by simpa using hk1), if_neg (by simpa using hk2)]
  obtain ⟨V, hV⟩ : ∃ V, V = w.alloc (.cells (Turn.mk kind n m).arr 98) := ⟨_, rfl⟩
  have hbV : Below w.heap.size w V := hV ▸ (Below.refl _ _).alloc (Nat.le_refl _) _
  have hkV : V.heap[w.heap.size]? = some (.cells (Turn.mk kind n m).arr 98 (0, 0)) := hV ▸ heap_alloc_new w _
  have c0 : V.cell? ⟨w.heap.size, 0, none⟩ = some (.int .i64 kind) := ((cells_known hkV).1 0).trans (Turn.arr_0 _)
  have d1 : decide (kind = 1) = false := decide_eq_false hk1
  have d2 : decide (kind = 2) = false := decide_eq_false hk2
  have HL := Lib.hid h
  have HBV := Lib.hid hbV
  clear hkV h hbV
  go_enter Try.func41, Try.ntmps41
  go_wp2_with fail
  try rw [← hV]
  clear hV
  go_wp2_with fail
  go_ret
  exact ⟨s, vs, rfl, by rw [hS.out]; exact (HL.out.keep HBV.out).zone (fun _ _ hz => .inl hz), HBV.out⟩
theorem then_8 {w : World} {Y : Nat → Prop} (s : Sl) (vs : List Sl) (l : List (List UInt8)) (t : Turn) (h : listsZ w Y s vs l) (hn : l.length ≤ 1000000) (hw : t.wf) :
    Calls Try.prog 41 #[.slice s.a s.n s.c, .agg t.arr] w (ThenPost w Y l t) := by
  by_cases h1 : t.kind = 1
  · exact then_one s vs l t h hn hw h1
  · by_cases h2 : t.kind = 2
    · exact then_two s l t hw h2
    · exact then_no s vs l t h h1 h2
end Go.Proofs.Ytkiindgcbpkddaa
