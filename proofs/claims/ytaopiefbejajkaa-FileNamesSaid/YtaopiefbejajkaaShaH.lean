/- Contracts of package sha: the sum of the sum. A transaction's number. -/
import Derived.Test.YtaopiefbejajkaaShaG
set_option linter.unusedSimpArgs false
set_option linter.unusedVariables false
namespace Go.Proofs.Ytaopiefbejajkaa
open Go.RowKit
theorem slsAt.below {w w' : World} {a : Option Addr} {vs : List Sl} {B : Nat} (h : slsAt w a vs B) (hb : Below B w w') : slsAt w' a vs B := by
  intro hl
  obtain ⟨b, off, ha, hbB, hc⟩ := h hl
  exact ⟨b, off, ha, hbB, fun k hk => by rw [hb.cell (p := ⟨b, _, none⟩) hbB]; exact hc k hk⟩
theorem slsAt.mono {w : World} {a : Option Addr} {vs : List Sl} {B B' : Nat} (h : slsAt w a vs B) (hB : B ≤ B') : slsAt w a vs B' := by
  intro hl
  obtain ⟨b, off, ha, hbB, hc⟩ := h hl
  exact ⟨b, off, ha, by omega, hc⟩
theorem bytesAt.below {w w' : World} {v : Sl} {l : List UInt8} {B : Nat} (h : bytesAt w v l B) (hb : Below B w w') : bytesAt w' v l B := by
  refine ⟨h.1, fun hl => ?_⟩
  obtain ⟨b, off, ha, hbB, hc⟩ := h.2 hl
  exact ⟨b, off, ha, hbB, fun k hk => by rw [hb.cell (p := ⟨b, _, none⟩) hbB]; exact hc k hk⟩
theorem bytesAt.mono {w : World} {v : Sl} {l : List UInt8} {B B' : Nat} (h : bytesAt w v l B) (hB : B ≤ B') : bytesAt w v l B' := by
  refine ⟨h.1, fun hl => ?_⟩
  obtain ⟨b, off, ha, hbB, hc⟩ := h.2 hl
  exact ⟨b, off, ha, by omega, hc⟩
/-- A hash's block, read as bytes. -/
theorem bytesAt_hash {w : World} {b : Nat} {z : Hash} {t : TypeId} (h : w.heap[b]? = some (.cells z.arr t (0, 0))) (n c : Nat) (hn : n = 32) : bytesAt w ⟨some ⟨b, 0, none⟩, n, c⟩ z.l w.heap.size := by
  subst hn
  refine ⟨z.len.symm, fun _ => ⟨b, 0, rfl, (cells_known h).2.2, fun k hk => ?_⟩⟩
  rw [(cells_known h).1, Nat.zero_add]
  exact Hash.arr_get z k (by rw [z.len] at hk; exact hk)
theorem slsAt_one {w : World} {b : Nat} {v : Sl} {t : TypeId} (h : w.heap[b]? = some (.cells #[.slice v.a v.n v.c] t (0, 0))) : slsAt w (some ⟨b, 0, none⟩) [v] w.heap.size := by
  refine fun _ => ⟨b, 0, rfl, (cells_known h).2.2, fun k hk => ?_⟩
  have : k = 0 := by simpa using hk
  subst this
  rw [(cells_known h).1]; rfl
/-- The sum of one piece. -/
theorem sum_one (b c : Nat) (v : Sl) (l : List UInt8) (t : TypeId) (w : World) (h : w.heap[b]? = some (.cells #[.slice v.a v.n v.c] t (0, 0))) (hv : bytesAt w v l w.heap.size) (hl : l.length < 1000000000000000) :
    Calls Try.prog 105 #[.slice (some ⟨b, 0, none⟩) 1 c] w fun e w' => e = .returned (.agg (shaS l).arr) ∧ Below w.heap.size w w' := by
  have := sum_sha (some ⟨b, 0, none⟩) c [(v, l)] w (by simp) (slsAt_one h) (by simpa using hv) (by simpa using hl)
  simpa using this
set_option maxRecDepth 100000 in
set_option maxHeartbeats 1000000 in
theorem twice_sha (b c : Nat) (v : Sl) (l : List UInt8) (t : TypeId) (w : World) (h : w.heap[b]? = some (.cells #[.slice v.a v.n v.c] t (0, 0))) (hv : bytesAt w v l w.heap.size) (hl : l.length < 1000000000000000) :
    Calls Try.prog 114 #[.slice (some ⟨b, 0, none⟩) 1 c] w fun e w' => e = .returned (.agg (twiceS l).arr) ∧ Below w.heap.size w w' := by
  go_enter Try.func114, Try.ntmps114
  go_wp2_with fail
  obtain ⟨V, hV⟩ : ∃ V, V = w.alloc (.cells Hash.zero.arr 30) := ⟨_, rfl⟩
  obtain ⟨hb, hhb⟩ : ∃ hb, hb = w.heap.size := ⟨_, rfl⟩
  rw [← hV, ← hhb]
  have hbV : Below w.heap.size w V := hV ▸ (Below.refl w.heap.size w).alloc (Nat.le_refl _) _
  have hVs : V.heap.size = w.heap.size + 1 := by rw [hV]; simp
  have hHV : V.heap[hb]? = some (.cells Hash.zero.arr 30 (0, 0)) := by rw [hV, hhb]; show (w.heap.push _)[w.heap.size]? = _; rw [Array.getElem?_push_size]
  refine (sum_one b c v l t V (by rw [hbV.block b (cells_known h).2.2]; exact h) ((hv.below hbV).mono (by omega)) hl).mono ?_
  rintro e W ⟨rfl, hbW⟩
  have hbw : Below w.heap.size w W := hbV.trans (hbW.mono (by omega))
  have hHW : W.heap[hb]? = some (.cells Hash.zero.arr 30 (0, 0)) := by rw [hbW.block hb (by omega)]; exact hHV
  have hWs := hbW.size
  have hbWl : hb < W.heap.size := by omega
  have hwW : w.heap.size ≤ W.heap.size := by omega
  have hge : w.heap.size ≤ hb := by omega
  clear hV hhb hVs hHV hbV hbW h hv hWs
  go_wp2_with fail
  refine (sum_one (W.heap.size + 1) 1 ⟨some ⟨W.heap.size, 0, none⟩, 32, 32⟩ (shaS l).l 96 _ (by show ((W.heap.push _).push _)[W.heap.size + 1]? = _; rw [show W.heap.size + 1 = (W.heap.push (.cells (shaS l).arr 30)).size by simp, Array.getElem?_push_size]) (bytesAt_hash (by show ((W.heap.push _).push _)[W.heap.size]? = _; rw [Array.getElem?_push, if_neg (by simp), Array.getElem?_push_size]) _ _ rfl) (by rw [(shaS l).len]; decide)).mono ?_
  rintro e Y ⟨rfl, hbY⟩
  have hb2 : Below W.heap.size W ((W.alloc (.cells (shaS l).arr 30)).alloc (.cells #[.slice (some ⟨W.heap.size, 0, none⟩) 32 32] 96)) := ((Below.refl W.heap.size W).alloc (Nat.le_refl _) _).alloc (by simp) _
  have hbWY : Below W.heap.size W Y := hb2.trans (hbY.mono (by simp; omega))
  have hHY : Y.heap[hb]? = some (.cells Hash.zero.arr 30 (0, 0)) := by rw [hbWY.block hb hbWl]; exact hHW
  have HHY := Lib.hid hHY
  clear hHY hHW hb2 hbY
  go_wp2_with (refine wpList_storeHash (.tmp 2) (.tmp 8) rfl rfl hb (shaS (shaS l).l) Hash.zero rfl rfl HHY.out ?_; intro wz hhz huz)
  refine bodyPost_ret (results_cell_row rfl _ _ hb 30 (shaS (shaS l).l).arr (0, 0) _ rfl hhz Try.underlying30 rfl (by rw [size_Hash]; simp)) rfl ⟨rfl, ?_⟩
  have hsY := hbWY.size
  exact hbw.trans ((hbWY.mono hwW).trans (huz.below (by omega) (fun i e => by have e2 : i = hb := e; omega)))
end Go.Proofs.Ytaopiefbejajkaa
