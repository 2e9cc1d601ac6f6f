/- Contracts of the document's own sums: a sum twice, the image of a preimage. -/
import Derived.Test.YtaopiefbejajkaaRefC
import Derived.Test.YtaopiefbejajkaaConv
set_option linter.unusedSimpArgs false
set_option linter.unusedVariables false
namespace Go.Proofs.Ytaopiefbejajkaa
open Go.RowKit
set_option maxRecDepth 100000 in
set_option maxHeartbeats 1000000 in
theorem twice_ref (v : Sl) (l : List UInt8) (w : World) (hv : bytesAt w v l w.heap.size) (hcap : v.n ≤ v.c) (hl : l.length < 1000000000000000) :
    Calls Try.prog 80 #[.slice v.a v.n v.c] w fun e w' => e = .returned (.agg (twiceS l).arr) ∧ Below w.heap.size w w' := by
  go_enter Try.func80, Try.ntmps80
  go_wp2_with fail
  obtain ⟨V, hV⟩ : ∃ V, V = w.alloc (.cells Hash.zero.arr 30) := ⟨_, rfl⟩
  obtain ⟨hb, hhb⟩ : ∃ hb, hb = w.heap.size := ⟨_, rfl⟩
  rw [← hV, ← hhb]
  have hbV : Below w.heap.size w V := hV ▸ (Below.refl w.heap.size w).alloc (Nat.le_refl _) _
  have hVs : V.heap.size = w.heap.size + 1 := by rw [hV]; simp
  have hHV : V.heap[hb]? = some (.cells Hash.zero.arr 30 (0, 0)) := by rw [hV, hhb]; exact heap_alloc_new w _
  refine (sum_ref v l V ((hv.below hbV).mono (by omega)) hcap hl).mono ?_
  rintro e W ⟨rfl, hbW⟩
  have hbw : Below w.heap.size w W := hbV.trans (hbW.mono (by omega))
  have hHW : W.heap[hb]? = some (.cells Hash.zero.arr 30 (0, 0)) := by rw [hbW.block hb (by omega)]; exact hHV
  have hWs := hbW.size
  have hbWl : hb < W.heap.size := by omega
  have hwW : w.heap.size ≤ W.heap.size := by omega
  have hge : w.heap.size ≤ hb := by omega
  clear hV hhb hVs hHV hbV hbW hv hWs
  go_wp2_with fail
  refine (sum_ref ⟨some ⟨W.heap.size, 0, none⟩, 32, 32⟩ (shaS l).l _ (bytesAt_hash (heap_alloc_new W _) 32 32 rfl) (Nat.le_refl _) (by rw [(shaS l).len]; decide)).mono ?_
  rintro e Y ⟨rfl, hbY⟩
  have hb2 : Below W.heap.size W (W.alloc (.cells (shaS l).arr 30)) := (Below.refl W.heap.size W).alloc (Nat.le_refl _) _
  have hbWY : Below W.heap.size W Y := hb2.trans (hbY.mono (by simp))
  have hHY : Y.heap[hb]? = some (.cells Hash.zero.arr 30 (0, 0)) := by rw [hbWY.block hb hbWl]; exact hHW
  have HHY := Lib.hid hHY
  clear hHY hHW hb2 hbY
  go_wp2_with (refine wpList_storeHash (.tmp 2) (.tmp 7) rfl rfl hb (shaS (shaS l).l) Hash.zero rfl rfl HHY.out ?_; intro wz hhz huz)
  refine bodyPost_ret (results_cell_row rfl _ _ hb 30 (shaS (shaS l).l).arr (0, 0) _ rfl hhz Try.underlying30 rfl (by rw [size_Hash]; simp)) rfl ⟨rfl, ?_⟩
  have hsY := hbWY.size
  exact hbw.trans ((hbWY.mono hwW).trans (huz.below (by omega) (fun i e => by have e2 : i = hb := e; omega)))
set_option maxRecDepth 100000 in
set_option maxHeartbeats 1000000 in
theorem image_ref (s : ByteArray) (hs : s.size < 1000000000000000) (w : World) :
    Calls Try.prog 17 #[.string s] w fun e w' => e = .returned (.agg (shaS s.data.toList).arr) ∧ Below w.heap.size w w' := by
  have hsl : s.data.toList.length < 1000000000000000 := by rw [Array.length_toList]; exact hs
  go_enter Try.func17, Try.ntmps17
  obtain ⟨W, c, hrun, hbW, hWs, hsc, hcb⟩ := run_bytes (w.alloc (.cells Hash.zero.arr 30)) s
  have hsz : (w.alloc (.cells Hash.zero.arr 30)).heap.size = w.heap.size + 1 := by simp
  rw [hsz] at hrun hcb hWs
  have hbV : Below w.heap.size w W := ((Below.refl w.heap.size w).alloc (Nat.le_refl _) _).trans (hbW.mono (by simp))
  have hHW : W.heap[w.heap.size]? = some (.cells Hash.zero.arr 30 (0, 0)) := (hbW.block _ (by simp)).trans (heap_alloc_new w _)
  have hwl : w.heap.size < W.heap.size := (Array.getElem?_eq_some_iff.1 hHW).1
  have HHW := Lib.hid hHW
  clear hHW hbW hWs hsz
  go_wp2_with fail
  refine (sum_ref ⟨some ⟨w.heap.size + 1, 0, none⟩, s.size, c⟩ s.data.toList W hcb hsc hsl).mono ?_
  rintro e Y ⟨rfl, hbY⟩
  have hHY : Y.heap[w.heap.size]? = some (.cells Hash.zero.arr 30 (0, 0)) := (hbY.block _ hwl).trans HHW.out
  have HHY := Lib.hid hHY
  have hbw : Below w.heap.size w Y := hbV.trans (hbY.mono (by omega))
  clear hHY hbY hcb hrun
  go_wp2_with (refine wpList_storeHash (.tmp 2) (.tmp 5) rfl rfl w.heap.size (shaS s.data.toList) Hash.zero rfl rfl HHY.out ?_; intro wz hhz huz)
  refine bodyPost_ret (results_cell_row rfl _ _ w.heap.size 30 (shaS s.data.toList).arr (0, 0) _ rfl hhz Try.underlying30 rfl (by rw [size_Hash]; simp)) rfl ⟨rfl, ?_⟩
  exact hbw.trans (huz.below hbw.size (fun i e => by have e2 : i = w.heap.size := e; omega))
end Go.Proofs.Ytaopiefbejajkaa
