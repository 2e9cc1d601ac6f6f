/- Contracts of package sha: a sum ended. -/
import Derived.Test.YtaopiefbejajkaaShaE
set_option linter.unusedSimpArgs false
set_option linter.unusedVariables false
namespace Go.Proofs.Ytaopiefbejajkaa
open Go.RowKit
theorem padN_lt (h : Nat) : padN h < 64 := Nat.mod_lt _ (by decide)
theorem feed_snoc (s : SumV) (l : List UInt8) (c : UInt8) : s.feed (l ++ [c]) = (s.feed l).takeB c.toNat := by rw [SumV.feed_append]; rfl
theorem bitsB_length (n : Nat) : (bitsB n).length = 8 := by simp [bitsB]
theorem hashB_get (h : St) (k : Nat) (hk : k < 32) : (hashB h)[k]'(by rw [hashB_length]; exact hk) = UInt8.ofNat (h.l.getD (k / 4) 0 / 2 ^ (24 - 8 * (k % 4))) := by simp [hashB]
theorem row_hash {w : World} {b : Nat} {z : Hash} (h : w.heap[b]? = some (.cells z.arr 30 (0, 0))) : row? w ⟨b, 0, none⟩ 32 = some z.arr := by
  unfold row?
  simp only [h]
  rw [if_pos (And.intro trivial (by simp))]
  congr 1
  rw [show 0 + 32 = z.arr.size by simp]
  exact Array.extract_size
theorem hash_at {w w' : World} {b : Nat} {c : Array Value} {p : Nat} (h : w.heap[b]? = some (.cells c 30 (0, 0))) (hu : Upd w w' (fun k => k = p)) (hne : b ≠ p) : w'.heap[b]? = some (.cells c 30 (0, 0)) := by
  rw [hu.block b (Array.getElem?_eq_some_iff.1 h).1 hne]; exact h
set_option maxRecDepth 100000 in
set_option maxHeartbeats 1000000 in
theorem end_sha (p : Nat) (s : SumV) (w : World) (hs : sumAt w p s) (hok : s.ok) (ha : s.all < 1000000000000000) :
    Calls Try.prog 140 #[.pointer (some ⟨p, 0, none⟩)] w fun e w' => e = .returned (.agg (Hash.mk (hashB s.ended.h) (hashB_length _)).arr) ∧ Upd w w' (fun k => k = p) := by
  obtain ⟨n, hn⟩ : ∃ n, n = 8 * s.all := ⟨_, rfl⟩
  have hnl : n < 8000000000000000 := by omega
  have en : IntKind.u64.wrap (8 * (s.all : Int)) = (n : Int) := by rw [IntKind.wrap_u64]; omega
  have en2 : (8 * (s.all : Int)) % 18446744073709551616 = (n : Int) := by omega
  have ca := hs.all
  have hp := (cells_known hs.1).2.2
  have HS := Lib.hid hs
  have HOK := Lib.hid hok
  have HN := Lib.hid hn
  clear hs hok hn
  go_enter Try.func140, Try.ntmps140
  go_wp2_with fail
  clear en en2 ca
  obtain ⟨W, hW⟩ : ∃ W, W = w.alloc (.cells Hash.zero.arr 30) := ⟨_, rfl⟩
  obtain ⟨hb, hhb⟩ : ∃ hb, hb = w.heap.size := ⟨_, rfl⟩
  rw [← hW, ← hhb]
  have huW : Upd w W (fun k => k = p) := hW ▸ Upd.of_below ((Below.refl w.heap.size w).alloc (Nat.le_refl _) _) _
  have hsW : sumAt W p s := ⟨by rw [hW]; show (w.heap.push _)[p]? = _; rw [Array.getElem?_push, if_neg (by omega)]; exact HS.out.1, HS.out.2⟩
  have hHW : W.heap[hb]? = some (.cells (partH (hashB s.ended.h) (hashB_length _) 0).arr 30 (0, 0)) := by rw [partH_zero, hW, hhb]; show (w.heap.push _)[w.heap.size]? = _; rw [Array.getElem?_push_size]
  have hne : hb ≠ p := by omega
  have hge : w.heap.size ≤ hb := by omega
  refine (take_sha p s 128 (by decide) W hsW HOK.out).mono ?_
  rintro e w1 ⟨rfl, hs1, hu1⟩
  have hh1 := hash_at hHW hu1 hne
  have hu2 : Upd w w1 (fun k => k = p) := huW.trans hu1 (fun _ _ h => h)
  have hok1 := SumV.takeB_ok HOK.out 128
  obtain ⟨s1, hs1e⟩ : ∃ s1, s1 = s.takeB 128 := ⟨_, rfl⟩
  rw [← hs1e] at hs1 hok1
  have hall1 : s1.all = s.all := hs1e ▸ SumV.takeB_all' _ _
  have HS1E := Lib.hid hs1e
  have HOK1 := Lib.hid hok1
  have HALL1 := Lib.hid hall1
  clear hs1e hW hhb hsW hHW huW hu1 hok1 hall1
  go_wp2_with fail
  go_loopw [] (fun wr => ∃ m : Nat, sumAt wr p (s1.feed (List.replicate m 0)) ∧ Upd w wr (fun k => k = p) ∧ wr.heap[hb]? = some (.cells (partH (hashB s.ended.h) (hashB_length _) 0).arr 30 (0, 0)) ∧ m + padN (s1.feed (List.replicate m 0)).hv = padN s1.hv) (fun wr => padN (intOf ((wr.cell? ⟨p, 72, none⟩).getD undef)).toNat)
  case atStart => exact ⟨0, hs1, hu2, hh1, Nat.zero_add _⟩
  case round =>
    obtain ⟨m, hsr, hur, hhr, hm⟩ := hrel
    obtain ⟨sr, hsre⟩ : ∃ sr, sr = s1.feed (List.replicate m 0) := ⟨_, rfl⟩
    rw [← hsre] at hsr hm
    have hokr : sr.ok := hsre ▸ SumV.feed_ok HOK1.out _
    have hvl := hokr.2.2.2.2
    have cv := hsr.hv
    have HSRE := Lib.hid hsre
    have HOKR := Lib.hid hokr
    have HM := Lib.hid hm
    have HSR := Lib.hid hsr
    clear hsre hokr hm hsr hs1 hu2 hh1
    by_cases h56 : sr.hv = 56
    · have t56 : ((sr.hv : Int) != 56) = false := by simp [h56]
      have H56 := Lib.hid h56
      clear h56
      have hs2 : Hid (sr = s1.feed (List.replicate (padN s1.hv) 0)) := by
        unfold Hid
        have : padN sr.hv = 0 := by rw [H56.out]; rfl
        rw [HSRE.out]; congr 2; have := HM.out; omega
      go_wp2_with fail
      clear cv t56
      go_loopw [4, 20] (fun _ v wr => ∃ k : Nat, k ≤ 8 ∧ v = .int .i64 k ∧ sumAt wr p (sr.feed ((bitsB s.all).take k)) ∧ Upd w wr (fun k => k = p) ∧ wr.heap[hb]? = some (.cells (partH (hashB s.ended.h) (hashB_length _) 0).arr 30 (0, 0))) (fun _ v _ => 8 - (intOf v).toNat)
      case atStart => exact ⟨0, by omega, rfl, HSR.out, hur, hhr⟩
      case round =>
        obtain ⟨k, hk, rfl, hsk, huk, hhk⟩ := hrel
        clear hur hhr HSR
        by_cases hlt : k < 8
        · obtain ⟨sh, hsh⟩ : ∃ sh, sh = 56 - 8 * k := ⟨_, rfl⟩
          have e5 : wrap64 (8 * (k : Int)) = 8 * (k : Int) := by unfold wrap64; omega
          have e6 : wrap64 (56 - 8 * (k : Int)) = (sh : Int) := by unfold wrap64; omega
          have e7 : 56 - 8 * (k : Int) = (sh : Int) := by omega
          have hbit : Hid ((bitsB s.all).take (k + 1) = (bitsB s.all).take k ++ [UInt8.ofNat (n / 2 ^ sh)]) := by
            unfold Hid
            rw [List.take_succ_eq_append_getElem (by rw [bitsB_length]; exact hlt)]
            congr 2
            have hn' := HN.out
            simp only [bitsB, List.getElem_map, List.getElem_range]
            rw [← hsh, ← hn', Nat.mod_eq_of_lt (by omega)]
          have hokk := SumV.feed_ok HOKR.out ((bitsB s.all).take k)
          have HSH := Lib.hid hsh
          have HOKK := Lib.hid hokk
          clear hsh hokk
          go_wp2_with fail
          have ec : ((n : Int) / 2 ^ sh % 256) = ((n / 2 ^ sh % 256 : Nat) : Int) := by rw [Int.natCast_emod, Int.natCast_ediv, Int.natCast_pow]; rfl
          rw [ec]
          refine (take_sha p _ (n / 2 ^ sh % 256) (Nat.mod_lt _ (by decide)) wr hsk HOKK.out).mono ?_
          rintro e w3 ⟨rfl, hs3, hu3⟩
          have hh3 := hash_at hhk hu3 hne
          clear e5 e6 e7 ec hhk
          go_wp2_with fail
          go_roundw
          case rel =>
            refine ⟨k + 1, by omega, by go_num, ?_, huk.trans hu3 (fun _ _ h => h), hh3⟩
            rw [hbit.out, feed_snoc, UInt8.toNat_ofNat']
            exact hs3
          case measure => simp [intOf]; omega
        · have hk8 : k = 8 := by omega
          subst hk8
          have hend : sr.feed ((bitsB s.all).take 8) = s.ended := by
            rw [List.take_of_length_le (by rw [bitsB_length]; exact Nat.le_refl 8), hs2.out, HS1E.out]; rfl
          rw [hend] at hsk
          obtain ⟨sf, hsf⟩ : ∃ sf, sf = s.ended := ⟨_, rfl⟩
          have hokf : sf.ok := by rw [hsf, ← hend]; exact SumV.feed_ok HOKR.out _
          rw [← hsf] at hsk hhk ⊢
          have HOKF := Lib.hid hokf
          have HSF := Lib.hid hsf
          clear hend hsf hokf hlt hk
          go_wp2_with fail
          go_loopw [5, 32] (fun _ v wr => ∃ k : Nat, k ≤ 32 ∧ v = .int .i64 k ∧ sumAt wr p sf ∧ Upd w wr (fun k => k = p) ∧ wr.heap[hb]? = some (.cells (partH (hashB sf.h) (hashB_length _) k).arr 30 (0, 0))) (fun _ v _ => 32 - (intOf v).toNat)
          case atStart => exact ⟨0, by omega, rfl, hsk, huk, hhk⟩
          case round =>
            obtain ⟨k, hk, rfl, hsq, huq, hhq⟩ := hrel
            clear hsk huk hhk
            by_cases hlt : k < 32
            · obtain ⟨q, hq⟩ : ∃ q, q = k / 4 := ⟨_, rfl⟩
              obtain ⟨j, hj⟩ : ∃ j, j = k % 4 := ⟨_, rfl⟩
              obtain ⟨sh, hsh⟩ : ∃ sh, sh = 24 - 8 * j := ⟨_, rfl⟩
              obtain ⟨x, hx⟩ : ∃ x, x = sf.h.l.getD q 0 := ⟨_, rfl⟩
              have f1 : (k : Int) / 4 = (q : Int) := by omega
              have f2 : (k : Int) % 4 = (j : Int) := by omega
              have f3 : 24 - 8 * (j : Int) = (sh : Int) := by omega
              have f4 : wrap64 (24 - 8 * (j : Int)) = (sh : Int) := by unfold wrap64; omega
              have q8 : q < 8 := by omega
              have cq : wr.cell? ⟨p, q, none⟩ = some (.int .u32 (x : Nat)) := hx ▸ hsq.h q q8
              have ch := (cells_known hhq).1
              have fh := (cells_known hhq).2.1
              have hset := partH_set (hashB sf.h) (hashB_length _) k hlt (byteV (UInt8.ofNat (x / 2 ^ sh))) (by rw [hashB_get _ _ hlt, hx, hq, hsh, hj])
              have HSET := Lib.hid hset
              have g0 : (0 : Int) ≤ (q : Int) := by omega
              have g1 : (q : Int) < 8 := by omega
              clear hset hx hq hsh hj
              go_wp2_with fail
              go_roundw
              case rel =>
                have hset2 : wr.setCell ⟨hb, k, none⟩ (.int .u8 ((x : Int) / 2 ^ sh % 256)) = wr.setCell ⟨hb, k, none⟩ (byteV (UInt8.ofNat (x / 2 ^ sh))) := by
                  rw [byteV_ofNat, Int.natCast_emod, Int.natCast_ediv, Int.natCast_pow]; rfl
                rw [hset2]
                have huh := Upd.setCell wr ⟨hb, k, none⟩ (byteV (UInt8.ofNat (x / 2 ^ sh)))
                refine ⟨k + 1, by omega, by go_num, ⟨(huh.block p (cells_known hsq.1).2.2 (fun e => hne e.symm)).trans hsq.1, hsq.2⟩, huq.trans huh (fun i hi e => by have e2 : i = hb := e; omega), ?_⟩
                rw [heap_set hhq, HSET.out]
              case measure => simp [intOf]; omega
            · have hk32 : k = 32 := by omega
              subst hk32
              rw [partH_all] at hhq
              obtain ⟨hz, hze⟩ : ∃ hz : Hash, hz = ⟨hashB sf.h, hashB_length _⟩ := ⟨_, rfl⟩
              rw [← hze] at hhq
              have hrow := row_hash hhq
              have HZE : Hid (hz = Hash.mk (hashB s.ended.h) (hashB_length _)) := by
                unfold Hid
                apply Hash.ext'
                rw [hze, ← HSF.out]
              clear hze
              have HHQ := Lib.hid hhq
              have HUQ := Lib.hid huq
              clear hhq huq hsq
              go_wp2_with (refine wpList_storeHash (.tmp 2) (.tmp 51) rfl rfl hb hz hz rfl (by first | rfl | (simp [Act.eval, Act.put, hrow])) HHQ.out ?_; intro wz hhz huz)
              refine bodyPost_ret (results_cell_row rfl _ _ hb 30 hz.arr (0, 0) _ rfl hhz Try.underlying30 rfl (by rw [size_Hash]; simp)) rfl ⟨by rw [HZE.out], HUQ.out.trans huz (fun i hi e => by have e2 : i = hb := e; omega)⟩
    · have t56 : ((sr.hv : Int) != 56) = true := by simp; omega
      go_wp2_with (go_at_call 139; refine (take_sha p sr 0 (by decide) _ HSR.out HOKR.out).mono ?_; rintro e w3 ⟨rfl, hs3, hu3⟩; have hh3 := hash_at hhr hu3 hne; clear cv t56)
      go_roundw
      case rel =>
        refine ⟨m + 1, ?_, hur.trans hu3 (fun _ _ h => h), hh3, ?_⟩
        · rw [List.replicate_succ', feed_snoc, ← HSRE.out]; exact hs3
        · rw [List.replicate_succ', feed_snoc, ← HSRE.out]
          have hm := HM.out
          have := SumV.takeB_hv sr (0 : UInt8).toNat hvl
          rw [this]
          unfold padN at hm ⊢
          omega
      case measure =>
        have c1 := hs3.hv
        have c2 := HSR.out.hv
        have := SumV.takeB_hv sr 0 hvl
        simp only [c1, c2, Option.getD_some, intOf, this]
        unfold padN
        omega
end Go.Proofs.Ytaopiefbejajkaa
