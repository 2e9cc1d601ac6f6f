/- Contracts of package sha: the sum of bytes, and its sum. Contracts of package sha: the sum of the sum. A transaction's number. -/
import Derived.Test.YtlkojkjeklblkaaGreatShaF
set_option linter.unusedSimpArgs false
set_option linter.unusedVariables false
namespace Go.Proofs.YtlkojkjeklblkaaGreat
open Go.RowKit
/-- A slice that reads as bytes, below block B. -/
def bytesAt (w : World) (v : Sl) (l : List UInt8) (B : Nat) : Prop := v.n = l.length ∧ (l ≠ [] → ∃ b off, v.a = some ⟨b, off, none⟩ ∧ b < B ∧ ∀ k (h : k < l.length), w.cell? ⟨b, off + k, none⟩ = some (byteV l[k]))
/-- Slices one behind the other. -/
def slsAt (w : World) (a : Option Addr) (vs : List Sl) (B : Nat) : Prop := vs ≠ [] → ∃ b off, a = some ⟨b, off, none⟩ ∧ b < B ∧ ∀ k (h : k < vs.length), w.cell? ⟨b, off + k, none⟩ = some (.slice vs[k].a vs[k].n vs[k].c)
theorem bytesAt.upd {w w' : World} {v : Sl} {l : List UInt8} {B : Nat} {S : Nat → Prop} (h : bytesAt w v l B) (hu : Upd w w' S) (hB : B ≤ w.heap.size) (hS : ∀ k, S k → B ≤ k) : bytesAt w' v l B := by
  refine ⟨h.1, fun hl => ?_⟩
  obtain ⟨b, off, ha, hb, hc⟩ := h.2 hl
  exact ⟨b, off, ha, hb, fun k hk => by rw [hu.cell (by omega) (fun hs => by have := hS b hs; omega)]; exact hc k hk⟩
theorem slsAt.upd {w w' : World} {a : Option Addr} {vs : List Sl} {B : Nat} {S : Nat → Prop} (h : slsAt w a vs B) (hu : Upd w w' S) (hB : B ≤ w.heap.size) (hS : ∀ k, S k → B ≤ k) : slsAt w' a vs B := by
  intro hl
  obtain ⟨b, off, ha, hb, hc⟩ := h hl
  exact ⟨b, off, ha, hb, fun k hk => by rw [hu.cell (by omega) (fun hs => by have := hS b hs; omega)]; exact hc k hk⟩
theorem bytesAt.at {w : World} {v : Sl} {l : List UInt8} {B : Nat} (h : bytesAt w v l B) {k : Nat} (hk : k < l.length) : ∃ b off, v.a = some ⟨b, off, none⟩ ∧ b < B ∧ w.cell? ⟨b, off + k, none⟩ = some (byteV l[k]) := by
  obtain ⟨b, off, ha, hb, hc⟩ := h.2 (by rintro rfl; simp at hk)
  exact ⟨b, off, ha, hb, hc k hk⟩
theorem slsAt.at {w : World} {a : Option Addr} {vs : List Sl} {B : Nat} (h : slsAt w a vs B) {k : Nat} (hk : k < vs.length) : ∃ b off, a = some ⟨b, off, none⟩ ∧ b < B ∧ w.cell? ⟨b, off + k, none⟩ = some (.slice vs[k].a vs[k].n vs[k].c) := by
  obtain ⟨b, off, ha, hb, hc⟩ := h (by rintro rfl; simp at hk)
  exact ⟨b, off, ha, hb, hc k hk⟩
/-- The bytes of the first k pieces. -/
def flatK (ps : List (Sl × List UInt8)) (k : Nat) : List UInt8 := (ps.take k).flatMap (·.2)
def curK (ps : List (Sl × List UInt8)) (k : Nat) : SumV := { SumV.ini.feed (flatK ps k) with all := (flatK ps k).length }
theorem flatK_succ {ps : List (Sl × List UInt8)} {k : Nat} (h : k < ps.length) : flatK ps (k + 1) = flatK ps k ++ ps[k].2 := by
  unfold flatK; rw [List.take_succ_eq_append_getElem h, List.flatMap_append]; simp
theorem flatK_le {ps : List (Sl × List UInt8)} (k : Nat) : (flatK ps k).length ≤ (ps.flatMap (·.2)).length := by
  have : ps.flatMap (·.2) = flatK ps k ++ (ps.drop k).flatMap (·.2) := by unfold flatK; rw [← List.flatMap_append, List.take_append_drop]
  rw [this, List.length_append]; omega
theorem curK_ok (ps : List (Sl × List UInt8)) (k : Nat) : (curK ps k).ok := SumV.feed_ok SumV.ini_ok (flatK ps k)
set_option maxRecDepth 100000 in
set_option maxHeartbeats 1000000 in
theorem sum_sha (a : Option Addr) (c : Nat) (ps : List (Sl × List UInt8)) (w : World) (hlen : ps.length ≤ 1000000) (hpa : slsAt w a (ps.map Prod.fst) w.heap.size) (hpb : ∀ q ∈ ps, bytesAt w q.1 q.2 w.heap.size) (htot : (ps.flatMap (·.2)).length < 1000000000000000) :
    Calls Tryz.prog 190 #[.slice a ps.length c] w fun e w' => e = .returned (.agg (shaS (ps.flatMap (·.2))).arr) ∧ Below w.heap.size w w' := by
  go_enter Tryz.func190, Tryz.ntmps190
  go_wp2_with fail
  obtain ⟨V, hV⟩ : ∃ V, V = w.alloc (.cells Hash.zero.arr 38) := ⟨_, rfl⟩
  obtain ⟨hb, hhb⟩ : ∃ hb, hb = w.heap.size := ⟨_, rfl⟩
  rw [← hV, ← hhb]
  have hbV : Below w.heap.size w V := hV ▸ (Below.refl w.heap.size w).alloc (Nat.le_refl _) _
  have hVs : V.heap.size = w.heap.size + 1 := by rw [hV]; simp
  have hHV : V.heap[hb]? = some (.cells Hash.zero.arr 38 (0, 0)) := by rw [hV, hhb]; show (w.heap.push _)[w.heap.size]? = _; rw [Array.getElem?_push_size]
  refine (begin_sha V).mono ?_
  rintro e W ⟨p, rfl, hp, hsW, hbW⟩
  have hHW : W.heap[hb]? = some (.cells Hash.zero.arr 38 (0, 0)) := by rw [hbW.block hb (by omega)]; exact hHV
  have hbw : Below w.heap.size w W := hbV.trans (hbW.mono (by omega))
  have huw : Upd w W (fun k => k = p) := Upd.of_below hbw _
  have hpge : w.heap.size < p := by omega
  have hSp : ∀ k, k = p → w.heap.size ≤ k := fun k e => by omega
  have hpaW := hpa.upd huw (Nat.le_refl _) hSp
  have hpbW : ∀ q ∈ ps, bytesAt W q.1 q.2 w.heap.size := fun q hq => (hpb q hq).upd huw (Nat.le_refl _) hSp
  have hWs := hbw.size
  have hne : hb ≠ p := by omega
  have hge : w.heap.size ≤ hb := by omega
  clear hV hhb hVs hHV hbV hbW huw hpa hpb hp
  go_wp2_with fail
  go_loopw [5, 7, 11] (fun _ _ v wr => ∃ k : Nat, k ≤ ps.length ∧ v = .int .i64 k ∧ sumAt wr p (curK ps k) ∧ Upd W wr (fun k => k = p)) (fun _ _ v _ => ps.length - (intOf v).toNat)
  case atStart => exact ⟨0, Nat.zero_le _, rfl, hsW, Upd.refl _ _⟩
  case round =>
    obtain ⟨k, hk, rfl, hsr, hur⟩ := hrel
    by_cases hlt : k < ps.length
    · obtain ⟨b0, off0, rfl, hb0, hc0⟩ := (hpaW.upd hur hWs hSp).at (k := k) (by simpa using hlt)
      simp only [List.getElem_map] at hc0
      obtain ⟨v, hv⟩ : ∃ v, v = ps[k].1 := ⟨_, rfl⟩
      obtain ⟨l, hl⟩ : ∃ l, l = ps[k].2 := ⟨_, rfl⟩
      have hbl : bytesAt W v l w.heap.size := by rw [hv, hl]; exact hpbW _ (List.getElem_mem hlt)
      have hvn : v.n = l.length := hbl.1
      rw [← hv] at hc0
      have hfl := flatK_succ hlt
      rw [← hl] at hfl
      have hle := flatK_le (ps := ps) (k + 1)
      rw [hfl, List.length_append] at hle
      obtain ⟨N0, hN0⟩ : ∃ n, n = (flatK ps k).length := ⟨_, rfl⟩
      obtain ⟨N, hN⟩ : ∃ n, n = N0 + l.length := ⟨_, rfl⟩
      have e1 : (N0 : Int) + (l.length : Int) = (N : Int) := by omega
      have e2 : IntKind.u64.wrap ((N0 : Int) + (l.length : Int)) = (N : Int) := by rw [IntKind.wrap_u64]; omega
      have e3 : ((N0 : Int) + (l.length : Int)) % 18446744073709551616 = (N : Int) := by omega
      have ca : wr.cell? ⟨p, 73, none⟩ = some (.int .u64 (N0 : Nat)) := by rw [hsr.all, curK, hN0]
      have hfz := (cells_known hsr.1).2.1
      have hs2 := sumAt_all hsr N
      rw [hvn] at hc0
      have e0 : IntKind.u64.wrap (l.length : Int) = (l.length : Int) := by rw [IntKind.wrap_u64]; omega
      have hll : l.length ≤ 1000000000000000 := by omega
      have hcur : Hid (({ curK ps k with all := N } : SumV).feed l = curK ps (k + 1)) := by
        unfold Hid curK
        rw [hfl, SumV.feed_append, List.length_append, ← hN0, ← hN]
        show (({ SumV.ini.feed (flatK ps k) with all := N } : SumV)).feed l = _
        rw [SumV.feed_all]
      have hok2 : ({ curK ps k with all := N } : SumV).ok := curK_ok ps k
      have HBL := Lib.hid hbl
      have HS2 := Lib.hid hs2
      have HUR := Lib.hid hur
      obtain ⟨va, vn, vc⟩ := v
      simp only at hc0 hvn
      clear hv hl hfl hle hN0 hN hsr hsW hbl hs2 hur e1 e3
      go_wp2_with fail
      have hs3 := HS2.out
      have hu3 : Upd W (wr.setCell ⟨p, 73, none⟩ (.int .u64 (N : Nat))) (fun k => k = p) := HUR.out.trans (Upd.setCell wr ⟨p, 73, none⟩ _) (fun _ _ h => h)
      clear e0 e2 ca hfz
      go_loopw [7, 27] (fun _ v wx => ∃ j : Nat, j ≤ l.length ∧ v = .int .i64 j ∧ sumAt wx p (({ curK ps k with all := N } : SumV).feed (l.take j)) ∧ Upd W wx (fun k => k = p)) (fun _ v _ => l.length - (intOf v).toNat)
      case atStart => exact ⟨0, Nat.zero_le _, rfl, hs3, hu3⟩
      case round =>
        obtain ⟨j, hj, rfl, hsj, huj⟩ := hrel
        clear hs3 hu3
        by_cases hjl : j < l.length
        · obtain ⟨b1, off1, hva, hb1, hc1⟩ := (HBL.out.upd huj hWs hSp).at hjl
          simp only at hva
          subst hva
          have hc1' : wr.cell? ⟨b1, off1 + j, none⟩ = some (.int .u8 (l[j].toNat : Int)) := hc1
          have hbyte := l[j].toNat_lt
          have htk : Hid ((({ curK ps k with all := N } : SumV).feed (l.take (j + 1))) = (({ curK ps k with all := N } : SumV).feed (l.take j)).takeB l[j].toNat) := by
            unfold Hid; rw [List.take_succ_eq_append_getElem hjl, feed_snoc]
          have hokj := Lib.hid (SumV.feed_ok hok2 (l.take j))
          have HSJ := Lib.hid hsj
          clear hc1 hsj
          go_wp2_with (go_at_call 220; refine (take_sha p _ l[j].toNat hbyte _ HSJ.out hokj.out).mono ?_; rintro e w5 ⟨rfl, hs5, hu5⟩)
          go_roundw
          case rel => exact ⟨j + 1, by omega, by go_num, by rw [htk.out]; exact hs5, huj.trans hu5 (fun _ _ h => h)⟩
          case measure => simp [intOf]; omega
        · have hjl2 : j = l.length := by omega
          subst hjl2
          rw [List.take_length, hcur.out] at hsj
          go_wp2_with fail
          go_roundw
          case rel => exact ⟨k + 1, by omega, by go_num, hsj, huj⟩
          case measure => simp [intOf]; omega
    · have hkk : k = ps.length := by omega
      subst hkk
      have hcur : curK ps ps.length = { SumV.ini.feed (ps.flatMap (·.2)) with all := (ps.flatMap (·.2)).length } := by
        unfold curK flatK; rw [List.take_length]
      have hok := curK_ok ps ps.length
      have hall : (curK ps ps.length).all < 1000000000000000 := by rw [hcur]; exact htot
      obtain ⟨sz, hsz⟩ : ∃ sz, sz = curK ps ps.length := ⟨_, rfl⟩
      rw [← hsz] at hok hall hsr
      have hres : Hid (Hash.mk (hashB sz.ended.h) (hashB_length _) = shaS (ps.flatMap (·.2))) := by
        unfold Hid; apply Hash.ext'; rw [hsz, hcur]; rfl
      have hHr := hash_at hHW hur hne
      have HSR := Lib.hid hsr
      have HHR := Lib.hid hHr
      have HUR := Lib.hid hur
      clear hcur hsz hsr hHr hHW hur hsW
      go_wp2_with (first | (go_at_call 221; refine (end_sha p sz _ HSR.out hok hall).mono ?_; rintro e w6 ⟨rfl, hu6⟩) | (refine wpList_storeHash (.tmp 2) (.tmp 37) rfl rfl hb (Hash.mk (hashB sz.ended.h) (hashB_length _)) Hash.zero rfl rfl (hash_at HHR.out hu6 hne) ?_; intro wz hhz huz))
      refine bodyPost_ret (results_cell_row rfl _ _ hb 38 (Hash.mk (hashB sz.ended.h) (hashB_length _)).arr (0, 0) _ rfl hhz Tryz.underlying38 rfl (by rw [size_Hash]; simp)) rfl ⟨by rw [hres.out], ?_⟩
      have hu7 : Upd W w6 (fun k => k = p) := HUR.out.trans hu6 (fun _ _ h => h)
      have hb7 : Below w.heap.size W w6 := hu7.below hWs hSp
      have hs6 := hu6.size
      exact hbw.trans (hb7.trans (huz.below (by have := HUR.out.size; omega) (fun i e => by have e2 : i = hb := e; omega)))
end Go.Proofs.YtlkojkjeklblkaaGreat
namespace Go.Proofs.YtlkojkjeklblkaaGreat
open Go.RowKit
theorem slsAt.below {w w' : World} {a : Option Addr} {vs : List Sl} {B : Nat} (h : slsAt w a vs B) (hb : Below B w w') : slsAt w' a vs B := by
  intro hl
  obtain ⟨b, off, ha, hbB, hc⟩ := h hl
  exact ⟨b, off, ha, hbB, fun k hk => by rw [hb.cell (p := ⟨b, _, none⟩) hbB]; exact hc k hk⟩
theorem slsAt.mono {w : World} {a : Option Addr} {vs : List Sl} {B B' : Nat} (h : slsAt w a vs B) (hB : B ≤ B') : slsAt w a vs B' := by
  intro hl
  obtain ⟨b, off, ha, hbB, hc⟩ := h hl
  exact ⟨b, off, ha, by omega, hc⟩
theorem bytesAt.below {w w' : World} {v : Sl} {l : List UInt8} {B : Nat} (h : bytesAt w v l B) (hb : Below B w w') : bytesAt w' v l B := by
  refine ⟨h.1, fun hl => ?_⟩
  obtain ⟨b, off, ha, hbB, hc⟩ := h.2 hl
  exact ⟨b, off, ha, hbB, fun k hk => by rw [hb.cell (p := ⟨b, _, none⟩) hbB]; exact hc k hk⟩
theorem bytesAt.mono {w : World} {v : Sl} {l : List UInt8} {B B' : Nat} (h : bytesAt w v l B) (hB : B ≤ B') : bytesAt w v l B' := by
  refine ⟨h.1, fun hl => ?_⟩
  obtain ⟨b, off, ha, hbB, hc⟩ := h.2 hl
  exact ⟨b, off, ha, by omega, hc⟩
/-- A hash's block, read as bytes. -/
theorem bytesAt_hash {w : World} {b : Nat} {z : Hash} {t : TypeId} (h : w.heap[b]? = some (.cells z.arr t (0, 0))) (n c : Nat) (hn : n = 32) : bytesAt w ⟨some ⟨b, 0, none⟩, n, c⟩ z.l w.heap.size := by
  subst hn
  refine ⟨z.len.symm, fun _ => ⟨b, 0, rfl, (cells_known h).2.2, fun k hk => ?_⟩⟩
  rw [(cells_known h).1, Nat.zero_add]
  exact Hash.arr_get z k (by rw [z.len] at hk; exact hk)
theorem slsAt_one {w : World} {b : Nat} {v : Sl} {t : TypeId} (h : w.heap[b]? = some (.cells #[.slice v.a v.n v.c] t (0, 0))) : slsAt w (some ⟨b, 0, none⟩) [v] w.heap.size := by
  refine fun _ => ⟨b, 0, rfl, (cells_known h).2.2, fun k hk => ?_⟩
  have : k = 0 := by simpa using hk
  subst this
  rw [(cells_known h).1]; rfl
/-- The sum of one piece. -/
theorem sum_one (b c : Nat) (v : Sl) (l : List UInt8) (t : TypeId) (w : World) (h : w.heap[b]? = some (.cells #[.slice v.a v.n v.c] t (0, 0))) (hv : bytesAt w v l w.heap.size) (hl : l.length < 1000000000000000) :
    Calls Tryz.prog 190 #[.slice (some ⟨b, 0, none⟩) 1 c] w fun e w' => e = .returned (.agg (shaS l).arr) ∧ Below w.heap.size w w' := by
  have := sum_sha (some ⟨b, 0, none⟩) c [(v, l)] w (by simp) (slsAt_one h) (by simpa using hv) (by simpa using hl)
  simpa using this
set_option maxRecDepth 100000 in
set_option maxHeartbeats 1000000 in
theorem twice_sha (b c : Nat) (v : Sl) (l : List UInt8) (t : TypeId) (w : World) (h : w.heap[b]? = some (.cells #[.slice v.a v.n v.c] t (0, 0))) (hv : bytesAt w v l w.heap.size) (hl : l.length < 1000000000000000) :
    Calls Tryz.prog 149 #[.slice (some ⟨b, 0, none⟩) 1 c] w fun e w' => e = .returned (.agg (twiceS l).arr) ∧ Below w.heap.size w w' := by
  go_enter Tryz.func149, Tryz.ntmps149
  go_wp2_with fail
  obtain ⟨V, hV⟩ : ∃ V, V = w.alloc (.cells Hash.zero.arr 38) := ⟨_, rfl⟩
  obtain ⟨hb, hhb⟩ : ∃ hb, hb = w.heap.size := ⟨_, rfl⟩
  rw [← hV, ← hhb]
  have hbV : Below w.heap.size w V := hV ▸ (Below.refl w.heap.size w).alloc (Nat.le_refl _) _
  have hVs : V.heap.size = w.heap.size + 1 := by rw [hV]; simp
  have hHV : V.heap[hb]? = some (.cells Hash.zero.arr 38 (0, 0)) := by rw [hV, hhb]; show (w.heap.push _)[w.heap.size]? = _; rw [Array.getElem?_push_size]
  refine (sum_one b c v l t V (by rw [hbV.block b (cells_known h).2.2]; exact h) ((hv.below hbV).mono (by omega)) hl).mono ?_
  rintro e W ⟨rfl, hbW⟩
  have hbw : Below w.heap.size w W := hbV.trans (hbW.mono (by omega))
  have hHW : W.heap[hb]? = some (.cells Hash.zero.arr 38 (0, 0)) := by rw [hbW.block hb (by omega)]; exact hHV
  have hWs := hbW.size
  have hbWl : hb < W.heap.size := by omega
  have hwW : w.heap.size ≤ W.heap.size := by omega
  have hge : w.heap.size ≤ hb := by omega
  clear hV hhb hVs hHV hbV hbW h hv hWs
  go_wp2_with fail
  refine (sum_one (W.heap.size + 1) 1 ⟨some ⟨W.heap.size, 0, none⟩, 32, 32⟩ (shaS l).l 137 _ (by show ((W.heap.push _).push _)[W.heap.size + 1]? = _; rw [show W.heap.size + 1 = (W.heap.push (.cells (shaS l).arr 38)).size by simp, Array.getElem?_push_size]) (bytesAt_hash (by show ((W.heap.push _).push _)[W.heap.size]? = _; rw [Array.getElem?_push, if_neg (by simp), Array.getElem?_push_size]) _ _ rfl) (by rw [(shaS l).len]; decide)).mono ?_
  rintro e Y ⟨rfl, hbY⟩
  have hb2 : Below W.heap.size W ((W.alloc (.cells (shaS l).arr 38)).alloc (.cells #[.slice (some ⟨W.heap.size, 0, none⟩) 32 32] 137)) := ((Below.refl W.heap.size W).alloc (Nat.le_refl _) _).alloc (by simp) _
  have hbWY : Below W.heap.size W Y := hb2.trans (hbY.mono (by simp; omega))
  have hHY : Y.heap[hb]? = some (.cells Hash.zero.arr 38 (0, 0)) := by rw [hbWY.block hb hbWl]; exact hHW
  have HHY := Lib.hid hHY
  clear hHY hHW hb2 hbY
  go_wp2_with (refine wpList_storeHash (.tmp 2) (.tmp 8) rfl rfl hb (shaS (shaS l).l) Hash.zero rfl rfl HHY.out ?_; intro wz hhz huz)
  refine bodyPost_ret (results_cell_row rfl _ _ hb 38 (shaS (shaS l).l).arr (0, 0) _ rfl hhz Tryz.underlying38 rfl (by rw [size_Hash]; simp)) rfl ⟨rfl, ?_⟩
  have hsY := hbWY.size
  exact hbw.trans ((hbWY.mono hwW).trans (huz.below (by omega) (fun i e => by have e2 : i = hb := e; omega)))
end Go.Proofs.YtlkojkjeklblkaaGreat
