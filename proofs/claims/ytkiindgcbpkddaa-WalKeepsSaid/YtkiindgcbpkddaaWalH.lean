/- A log in memory; whether there is one, whether it is dead; what fails. -/
import Derived.Test.YtkiindgcbpkddaaWalE
import Derived.Deep.RegionHeld3
import Derived.Deep.DeepCutAuto
import Derived.Deep.CutBlock
set_option linter.unusedSimpArgs false
set_option linter.unusedVariables false
namespace Go.Proofs.Ytkiindgcbpkddaa
open Go.RowKit
/-- A log. -/
structure LogM where
  name : Nm
  recs : List (List UInt8)
  size : Nat
  dead : Bool
def LogM.head (L : LogM) (p : Nat) (s : Sl) : LogV := { f := some ⟨p, 0, none⟩, name := L.name.1, records := s, size := L.size, dead := L.dead }
/-- As it lies: its head at q, its records in a row of their own, all of it in the zone. -/
structure LogAt (w : World) (Z : Nat → Prop) (q p : Nat) (s : Sl) (vs : List Sl) (L : LogM) : Prop where
  hd : w.heap[q]? = some (.cells (L.head p s).arr 167 (0, 0))
  recs : RecsAt w (fun k => Z k ∧ k ≠ q) s vs L.recs
  zone : Z q
section
variable {w w' : World} {Z Y S : Nat → Prop} {q p : Nat} {s : Sl} {vs : List Sl} {L : LogM}
theorem LogAt.lt (h : LogAt w Z q p s vs L) : q < w.heap.size := (cells_known h.hd).2.2
theorem LogAt.upd (h : LogAt w Z q p s vs L) (hu : Upd w w' S) (hs : ∀ k, Z k → k < w.heap.size → ¬ S k) : LogAt w' Z q p s vs L :=
  ⟨(hu.block _ h.lt (hs q h.zone h.lt)).trans h.hd, h.recs.upd hu (fun k hk hl => hs k hk.1 hl), h.zone⟩
theorem LogAt.keep (h : LogAt w Z q p s vs L) (hb : Below w.heap.size w w') : LogAt w' Z q p s vs L := h.upd (S := fun _ => False) (Upd.of_below hb _) (fun _ _ _ hf => hf)
theorem LogAt.zoned (h : LogAt w Z q p s vs L) (hY : ∀ k, k < w.heap.size → Z k → Y k) : LogAt w Y q p s vs L :=
  ⟨h.hd, h.recs.zoned (fun k hk hz => ⟨hY k hk hz.1, hz.2⟩), hY q h.lt h.zone⟩
theorem LogAt.cell (h : LogAt w Z q p s vs L) : w.cell? ⟨q, 0, none⟩ = some (.pointer (some ⟨p, 0, none⟩)) ∧ w.cell? ⟨q, 1, none⟩ = some (.string L.name.1) ∧ w.cell? ⟨q, 2, none⟩ = some (.slice s.a s.n s.c) ∧ w.cell? ⟨q, 3, none⟩ = some (.int .i64 L.size) ∧ w.cell? ⟨q, 4, none⟩ = some (.bool L.dead) := by
  have hk := (cells_known h.hd).1
  exact ⟨by rw [hk]; exact LogV.arr_0 _, by rw [hk]; exact LogV.arr_1 _, by rw [hk]; exact LogV.arr_2 _, by rw [hk]; exact LogV.arr_3 _, by rw [hk]; exact LogV.arr_4 _⟩
theorem none_log (h : LogAt w Z q p s vs L) : Calls Try.prog 101 #[.pointer (some ⟨q, 0, none⟩)] w fun e w' => e = .returned (.bool false) ∧ w = w' := by
  have c0 := h.cell.1
  clear h
  go_enter Try.func101, Try.ntmps101
  go_wp2_with fail
  go_ret
  exact ⟨rfl, rfl⟩
theorem none_nolog (w : World) : Calls Try.prog 101 #[.pointer none] w fun e w' => e = .returned (.bool true) ∧ w = w' := by
  go_enter Try.func101, Try.ntmps101
  go_wp2_with fail
  go_ret
  exact ⟨rfl, rfl⟩
theorem dead_log (h : LogAt w Z q p s vs L) : Calls Try.prog 49 #[.pointer (some ⟨q, 0, none⟩)] w fun e w' => e = .returned (.bool L.dead) ∧ w = w' := by
  have hn := none_log h
  have c4 := h.cell.2.2.2.2
  clear h
  go_enter Try.func49, Try.ntmps49
  go_wp2_with (go_at_call 101; refine hn.mono ?_; rintro e w1 ⟨rfl, rfl⟩)
  go_ret
  exact ⟨rfl, rfl⟩
theorem dead_nolog (w : World) : Calls Try.prog 49 #[.pointer none] w fun e w' => e = .returned (.bool true) ∧ w = w' := by
  have hn := none_nolog w
  go_enter Try.func49, Try.ntmps49
  go_wp2_with (go_at_call 101; refine hn.mono ?_; rintro e w1 ⟨rfl, rfl⟩)
  go_ret
  exact ⟨rfl, rfl⟩
def LogM.fail (L : LogM) (e : Int) : LogM := { L with dead := L.dead || e == 7 }
/-- A log's head stored anew. -/
theorem LogAt.head {L' : LogM} (h : LogAt w Z q p s vs L) (hu : Upd w w' (fun k => k = q)) (hd : w'.heap[q]? = some (.cells (L'.head p s).arr 167 (0, 0))) (hr : L'.recs = L.recs) : LogAt w' Z q p s vs L' :=
  ⟨hd, by rw [hr]; exact h.recs.upd hu (fun k hk _ e => hk.2 e), h.zone⟩
theorem fails_log (e : Int) (h : LogAt w Z q p s vs L) : Calls Try.prog 98 #[.pointer (some ⟨q, 0, none⟩), .int .i64 e] w fun r w' => r = .returned (.int .i64 e) ∧ LogAt w' Z q p s vs (L.fail e) ∧ Upd w w' (fun k => k = q) := by
  have c4 := h.cell.2.2.2.2
  have hf := (cells_known h.hd).2.1
  have f4 := hf 4
  obtain ⟨name, recs, size, dead⟩ := L
  have H := Lib.hid h
  clear h hf
  cases dead
  all_goals
    simp only at c4
    go_enter Try.func98, Try.ntmps98
    go_wp2_with fail
    go_ret
    refine ⟨rfl, H.out.head (Upd.setCell w ⟨q, 4, none⟩ _) ?_ rfl, Upd.setCell w ⟨q, 4, none⟩ _⟩
    rw [heap_set H.out.hd, LogM.head, LogV.set_4]
    rfl
end
end Go.Proofs.Ytkiindgcbpkddaa
