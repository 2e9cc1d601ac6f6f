/- Bytes put one behind the other; a record's sum; a record as it stands in the file; records in memory of their own. -/
import Derived.Test.YtkiindgcbpkddaaWalB
import Derived.Lib.AppendZeros
set_option linter.unusedSimpArgs false
set_option linter.unusedVariables false
namespace Go.Proofs.Ytkiindgcbpkddaa
open Go.RowKit
set_option maxRecDepth 100000 in
set_option maxHeartbeats 1000000 in
theorem grow_nil (n : Nat) (hn : n ≤ 2000000000) (w : World) : Calls Try.prog 165 #[.slice none 0 0, .int .i64 n] w fun e w' => ∃ s : Sl, e = .returned (.slice s.a s.n s.c) ∧ ownB w' (fun k => w.heap.size ≤ k) s [] ∧ Below w.heap.size w w' := by
  obtain ⟨i, hi, hz, hs, hb⟩ := info_u8
  by_cases h0 : n = 0
  · subst h0
    go_enter Try.func165, Try.ntmps165
    go_wp2_with fail
    go_ret
    exact ⟨⟨none, 0, 0⟩, rfl, ownB_nil _ _, Below.refl _ _⟩
  · have hr := Lib.run_append_nil_zeros (P := Try.prog) w 102 3 102 5 i (.int .u8 0) .i64 .i64 Try.underlying102 Try.underlying3 hi hz n (by omega) (by rw [hs]; omega) (by omega) (by rw [hb]; omega)
    have hge := grownCap_ge w n 0 5
    have hcm : grownCap w n 0 5 ≤ maxLen := grownCap_le_maxLen w n 0 5 (by unfold maxLen; omega)
    obtain ⟨C, hC⟩ : ∃ C, C = grownCap w n 0 5 := ⟨_, rfl⟩
    rw [← hC] at hr hge hcm
    obtain ⟨cur, hcur⟩ : ∃ cur, cur = Builtin.zeroCells (Value.int .u8 0).cells n ++ Builtin.zeroCells (Value.int .u8 0).cells (C - n) := ⟨_, rfl⟩
    have hcs : cur.size = C := by
      have hz1 : (Value.int .u8 0).cells.size = 1 := rfl
      rw [hcur]; simp only [Array.size_append, size_zeroCells, hz1]; omega
    rw [← hcur] at hr
    have d0 : decide ((0 : Int) < (n : Int)) = true := decide_eq_true (by omega)
    have HR := Lib.hid hr
    clear hr hC hcur hi hz hs hb
    go_enter Try.func165, Try.ntmps165
    go_wp2_with (refine Lib.wpList_append_run _ rfl _ _ _ _ rfl _ _ rfl rfl _ _ HR.out ?_)
    go_ret
    refine ⟨⟨some ⟨w.heap.size, 0, none⟩, 0, C⟩, rfl, ⟨rfl, Nat.zero_le _, hcm, fun _ => ⟨w.heap.size, cur, rfl, Nat.le_refl _, heap_alloc_new w.drew _, by simp only; omega, by simp [byteVs]⟩⟩, ?_⟩
    exact ((Below.refl w.heap.size w).drew).alloc (by simp) _
set_option maxRecDepth 100000 in
set_option maxHeartbeats 1000000 in
theorem concat_bytes (a : Option Addr) (c : Nat) (ps : List (Sl × List UInt8)) (w : World) (hlen : ps.length ≤ 1000000) (hpa : slsAt w a (ps.map Prod.fst) w.heap.size) (hpb : ∀ q ∈ ps, bytesAt w q.1 q.2 w.heap.size) (htot : (ps.flatMap (·.2)).length ≤ 1000000000) :
    Calls Try.prog 144 #[.slice a ps.length c] w fun e w' => ∃ s : Sl, e = .returned (.slice s.a s.n s.c) ∧ ownB w' (fun k => w.heap.size ≤ k) s (ps.flatMap (·.2)) ∧ Below w.heap.size w w' := by
  obtain ⟨i, hi, hz, hs, hb⟩ := info_u8
  go_enter Try.func144, Try.ntmps144
  go_wp2_with fail
  go_loop [3, 11] (fun v3 v11 => ∃ k : Nat, k ≤ ps.length ∧ v11 = .int .i64 k ∧ v3 = .int .i64 (flatK ps k).length) (fun _ v => ps.length - (intOf v).toNat)
  case atStart => exact ⟨0, Nat.zero_le _, rfl, rfl⟩
  case round =>
    obtain ⟨k, hk, rfl, rfl⟩ := hrel
    have hfl := flatK_le (ps := ps) k
    by_cases hlt : k < ps.length
    · obtain ⟨b, off, rfl, hbl, hc⟩ := hpa.at (k := k) (by simpa using hlt)
      rw [List.getElem_map] at hc
      have hn := (hpb ps[k] (List.getElem_mem hlt)).1
      have hfs := flatK_succ hlt
      have hfl2 := flatK_le (ps := ps) (k + 1)
      have HL : (flatK ps (k + 1)).length = (flatK ps k).length + (ps[k].1).n := by rw [hfs, List.length_append, hn]
      obtain ⟨F, hF⟩ : ∃ F, F = (flatK ps k).length := ⟨_, rfl⟩
      obtain ⟨q, hq⟩ : ∃ q, q = ps[k].1 := ⟨_, rfl⟩
      rw [← hF, ← hq] at HL
      rw [← hq] at hc
      rw [← hF]
      have hq1 : F + q.n ≤ 1000000000 := by omega
      have dlt : decide ((k : Int) < (ps.length : Int)) = true := decide_eq_true (by omega)
      have d0 : decide ((F : Int) + (q.n : Int) < 0) = false := decide_eq_false (by omega)
      have HH := Lib.hid HL
      clear HL hfs hn hfl hfl2 hF hq htot
      go_wp2_with fail
      go_round
      case rel => exact ⟨k + 1, by omega, by go_num, by rw [HH.out]; go_num⟩
      case measure => simp [intOf]; omega
    · have hkN : k = ps.length := by omega
      subst hkN
      have hall : flatK ps ps.length = ps.flatMap (·.2) := by unfold flatK; rw [List.take_length]
      have hg := grow_nil (flatK ps ps.length).length (by omega) w
      obtain ⟨F, hF⟩ : ∃ F, F = (flatK ps ps.length).length := ⟨_, rfl⟩
      rw [← hF] at hg ⊢
      have HF := Lib.hid hF
      clear hF
      go_wp2_with (go_at_call 165; refine hg.mono ?_; rintro e w1 ⟨s0, rfl, ho, hb1⟩)
      clear hg
      go_loopw [6, 27] (fun v6 v27 wr => ∃ (k : Nat) (s : Sl), k ≤ ps.length ∧ v27 = .int .i64 k ∧ v6 = .slice s.a s.n s.c ∧ ownB wr (fun j => w.heap.size ≤ j) s (flatK ps k) ∧ Below w.heap.size w wr) (fun _ v _ => ps.length - (intOf v).toNat)
      case atStart => exact ⟨0, s0, Nat.zero_le _, rfl, rfl, ho, hb1⟩
      case round =>
        obtain ⟨k, s, hk, rfl, rfl, ho, hbr⟩ := hrel
        clear hb1
        by_cases hlt : k < ps.length
        · obtain ⟨b, off, rfl, hbl, hc⟩ := hpa.at (k := k) (by simpa using hlt)
          rw [List.getElem_map] at hc
          have hcr := (hbr.cell (p := ⟨b, off + k, none⟩) hbl).trans hc
          have hx := ((hpb ps[k] (List.getElem_mem hlt)).below hbr).mono hbr.size
          have hfs := flatK_succ hlt
          have hfl2 := flatK_le (ps := ps) (k + 1)
          have hfl3 : (flatK ps k).length + ps[k].2.length ≤ 1000000000 := by rw [hfs, List.length_append] at hfl2; omega
          obtain ⟨s', w2, hrun, ho2, hu2, hn2, _⟩ := run_append_B (P := Try.prog) wr (fun j => w.heap.size ≤ j) 102 102 102 i Try.underlying102 hi hz hs hb s (flatK ps k) ho _ ps[k].2 (hx.src (src_ok hx)) (fun j hj => Nat.le_trans hbr.size hj) (by omega)
          have hrun2 : (Builtin.append_ #[102, 102] 102 #[.slice s.a s.n s.c, .slice ps[k].1.a ps[k].1.n ps[k].1.c]).run Try.prog wr = .ok (.slice s'.a s'.n s'.c) w2 := hrun
          have hb2 : Below w.heap.size wr w2 := hu2.below hbr.size (fun j hj => (ho.lt hj).1)
          rw [← hfs] at ho2
          obtain ⟨q, hq⟩ : ∃ q, q = ps[k].1 := ⟨_, rfl⟩
          rw [← hq] at hrun2 hcr
          have dlt : decide ((k : Int) < (ps.length : Int)) = true := decide_eq_true (by omega)
          have HR := Lib.hid hrun2
          clear hrun hrun2 hc hx hfs hfl2 hfl3 ho hu2 hn2 hq
          go_wp2_with (refine Lib.wpList_append_run _ rfl _ _ _ _ rfl _ _ rfl rfl _ _ HR.out ?_)
          go_roundw
          case rel => exact ⟨k + 1, s', by omega, by go_num, rfl, ho2, hbr.trans (hb2.mono (Nat.le_refl _))⟩
          case measure => simp [intOf]; omega
        · have hkN : k = ps.length := by omega
          subst hkN
          rw [hall] at ho
          go_wp2_with fail
          go_ret
          exact ⟨s, rfl, ho, hbr⟩
end Go.Proofs.Ytkiindgcbpkddaa
