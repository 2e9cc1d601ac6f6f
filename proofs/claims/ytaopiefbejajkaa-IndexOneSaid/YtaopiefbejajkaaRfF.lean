/- The document's own form of a transaction, and its number. -/
import Derived.Test.YtaopiefbejajkaaRfE
import Derived.Test.YtaopiefbejajkaaRefD
import Derived.Test.YtaopiefbejajkaaRfC
set_option linter.unusedSimpArgs false
set_option linter.unusedVariables false
namespace Go.Proofs.Ytaopiefbejajkaa
open Go.RowKit
theorem encN_one (n : Int) : encN [n] = putS n.toNat := by simp [encN]
set_option maxRecDepth 100000 in
set_option maxHeartbeats 1000000 in
theorem bodyref (v : TxV) (t : Tx) (w : World) (ht : isTx w v t w.heap.size) (h1 : t.ins.length ≤ 1000000) (h2 : t.outs.length ≤ 1000000) (hn1 : ∀ i ∈ t.ins, inNum i) (hn2 : ∀ o ∈ t.outs, outNum o) (hl : OkNum t.lock) :
    Calls Try.prog 81 #[.agg v.arr] w (RetBytes w (bodyS t)) := by
  obtain ⟨⟨ia, il, ic⟩, ⟨oa, ol, oc⟩, lk⟩ := v
  obtain ⟨⟨hm1, hcc1, hr1⟩, ⟨hm2, hcc2, hr2⟩, hlk⟩ := ht
  simp only at hm1 hcc1 hr1 hm2 hcc2 hr2 hlk
  subst hm1 hm2 hlk
  obtain ⟨W, hW⟩ : ∃ W, W = w.alloc (.cells (TxV.mk ⟨ia, t.ins.length, ic⟩ ⟨oa, t.outs.length, oc⟩ t.lock).arr 51) := ⟨_, rfl⟩
  have hbW : Below w.heap.size w W := hW ▸ (Below.refl _ _).alloc (Nat.le_refl _) _
  have g1 : W.heap[w.heap.size]? = some (.cells (TxV.mk ⟨ia, t.ins.length, ic⟩ ⟨oa, t.outs.length, oc⟩ t.lock).arr 51 (0, 0)) := hW ▸ heap_alloc_new w _
  have hcell : ∀ Q, Below W.heap.size W Q → Q.cell? ⟨w.heap.size, 0, none⟩ = some (.slice ia t.ins.length ic) ∧ Q.cell? ⟨w.heap.size, 1, none⟩ = some (.slice oa t.outs.length oc) ∧ Q.cell? ⟨w.heap.size, 2, none⟩ = some (.int .i64 t.lock) := by
    intro Q hQ
    have hg := (hQ.block _ (cells_known g1).2.2).trans g1
    rw [(cells_known hg).1, (cells_known hg).1, (cells_known hg).1]
    exact ⟨TxV.arr_0 _, TxV.arr_1 _, TxV.arr_2 _⟩
  have HC := Lib.hid hcell
  have HR1 := Lib.hid ((hr1.below hbW).mono hbW.size)
  have HR2 := Lib.hid ((hr2.below hbW).mono hbW.size)
  have HN := Lib.hid (And.intro hn1 hn2)
  have HBW := Lib.hid hbW
  have hwl : w.heap.size < W.heap.size := (cells_known g1).2.2
  obtain ⟨L0, hL0⟩ : ∃ L, L = encN [(t.ins.length : Int)] := ⟨_, rfl⟩
  have hL0l : L0.length ≤ 9 := by rw [hL0]; exact encN_le _
  have hp1 : Calls Try.prog 124 #[.int .i64 t.ins.length] W (RetBytes W L0) := by rw [hL0, encN_one]; exact put_ref _ (by simp [OkNum]; omega) W
  have HL0 := Lib.hid hL0
  clear hL0
  have hsum1 : ∀ k, ((t.ins.take k).flatMap inB).length ≤ 50000000 := fun k => by
    have := flat_le inB 50 inB_le (t.ins.take k)
    have : (t.ins.take k).length ≤ 1000000 := by simp; omega
    omega
  have hsum2 : ∀ k, ((t.outs.take k).flatMap outB).length ≤ 95000000 := fun k => by
    have := flat_le outB 95 outB_le (t.outs.take k)
    have : (t.outs.take k).length ≤ 1000000 := by simp; omega
    omega
  have HS1 := Lib.hid hsum1
  have HS2 := Lib.hid hsum2
  have HL := Lib.hid hl
  obtain ⟨q0, q1, q2⟩ := HC.out W (Below.refl _ _)
  clear hr1 hr2 g1 hcell hbW hsum1 hsum2 hn1 hn2 hl
  go_enter Try.func81, Try.ntmps81
  go_upto_region 1 with fail
  rw [← hW]
  clear hW
  go_wp2_with fail
  refine hp1.mono ?_
  rintro e w1 ⟨a1, c1, rfl, ho1, hb1⟩
  clear hp1 q0 q1 q2
  go_wp2_with fail
  go_loopw [3, 4] (fun v i wr => ∃ k : Nat, k ≤ t.ins.length ∧ i = .int .i64 k ∧ wr.ownsRow W.heap.size 5 1 v (L0 ++ (t.ins.take k).flatMap inB).length (byteVs (L0 ++ (t.ins.take k).flatMap inB)) ∧ Below W.heap.size W wr) (fun _ i _ => t.ins.length - (intOf i).toNat)
  case atStart => exact ⟨0, Nat.zero_le _, rfl, by simpa using ho1, hb1⟩
  case round =>
    clear ho1 hb1
    obtain ⟨k, hk, rfl, ho, hbr⟩ := hrel
    by_cases hlt : k < t.ins.length
    · obtain ⟨b0, off, rfl, hb0, hr⟩ := (HR1.out.below hbr).at hlt
      obtain ⟨hnp, hns⟩ := HN.out.1 _ (List.getElem_mem hlt)
      obtain ⟨x, hx⟩ : ∃ x, x = t.ins[k] := ⟨_, rfl⟩
      rw [← hx] at hr hnp hns
      obtain ⟨L, hL⟩ : ∃ L, L = L0 ++ (t.ins.take k).flatMap inB := ⟨_, rfl⟩
      have hnext : L0 ++ (t.ins.take (k + 1)).flatMap inB = L ++ (x.prev.tx.l ++ putS x.prev.n.toNat) ++ putS x.seq.toNat := by
        rw [flat_take inB hlt, ← hx, hL]; simp [inB, encN_one]
      have hLl : L.length ≤ 50000009 := by have := HS1.out k; rw [hL, List.length_append]; omega
      rw [← hL] at ho
      have HX := Lib.hid (And.intro hnext (And.intro ho hbr))
      have hS : ∀ Q, Below W.heap.size wr Q → Q.cell? ⟨w.heap.size, 0, none⟩ = some (.slice (some ⟨b0, off, none⟩) t.ins.length ic) ∧ row? Q ⟨b0, off + k * 37, none⟩ 33 = some x.prev.arr ∧ Q.cell? ⟨b0, off + k * 37 + 33, none⟩ = some (.int .i64 x.seq) := by
        intro Q hQ
        have hrq := (row?_below hQ (a := ⟨b0, off + k * 37, none⟩) hb0 37).trans hr
        refine ⟨(HC.out Q (hbr.trans hQ)).1, ?_, ?_⟩
        · have := row?_part hrq 0 33 (by omega)
          simp only [Nat.add_zero, Nat.zero_add] at this
          rw [this, In.ext_0]
        · have := row?_cellAt hrq 33 (by omega)
          rw [In.arr_33] at this
          exact this
      have HS := Lib.hid hS
      have hS0 := hS wr.drew (Below.refl _ _).drew
      have j0 : (0 : Int) ≤ (k : Int) := by omega
      have j1 : (k : Int) < (t.ins.length : Int) := by omega
      have hpt := point_ref x.prev hnp wr.drew
      have hle := putS_le x.prev.n.toNat
      have hxl := x.prev.tx.len
      have hle2 := putS_le x.seq.toNat
      have HXX := Lib.hid hx
      have HNS := Lib.hid hns
      have HHL := Lib.hid hL
      obtain ⟨q0, q1, q2⟩ := HC.out wr hbr
      clear hS hnext hx hns hL hr hnp
      go_upto_region 5 with fail
      go_region_held3 (fun X : World => X.cell? ⟨w.heap.size, 0, none⟩ = some (.slice (some ⟨b0, off, none⟩) t.ins.length ic) ∧ row? X ⟨b0, off + k * 37, none⟩ 33 = some x.prev.arr ∧ X.cell? ⟨b0, off + k * 37 + 33, none⟩ = some (.int .i64 x.seq)) (first | exact hS0 | exact hS1 | exact hS2 | exact hS3 | exact hS4) (first | (go_at_call 125; refine hpt.mono ?_; rintro e wA ⟨aA, cA, rfl, hoA, hbA⟩; have hbA1 : Below wr.heap.size wr wA := ((Below.refl _ _).drew).trans hbA; have hS1 : wA.cell? ⟨w.heap.size, 0, none⟩ = some (.slice (some ⟨b0, off, none⟩) t.ins.length ic) ∧ row? wA ⟨b0, off + k * 37, none⟩ 33 = some x.prev.arr ∧ wA.cell? ⟨b0, off + k * 37 + 33, none⟩ = some (.int .i64 x.seq) := HS.out wA (hbA1.mono HX.out.2.2.size); obtain ⟨vA, wB, hrA, hoB, huB, hnB⟩ := own_app (c := cA) (ownsRow_below HX.out.2.1 hbA1) (own_news hoA).1 (own_news hoA).2 (Nat.le_trans HX.out.2.2.size hbA1.size) (by simp only [List.length_append]; omega); have hbB : Below W.heap.size wr wB := (hbA1.mono HX.out.2.2.size).trans (huB.below (Nat.le_trans HX.out.2.2.size hbA1.size) (own_base HX.out.2.1)); have hS2 : wB.cell? ⟨w.heap.size, 0, none⟩ = some (.slice (some ⟨b0, off, none⟩) t.ins.length ic) ∧ row? wB ⟨b0, off + k * 37, none⟩ 33 = some x.prev.arr ∧ wB.cell? ⟨b0, off + k * 37 + 33, none⟩ = some (.int .i64 x.seq) := HS.out wB hbB; have hput := put_ref x.seq HNS.out wB) | (refine step_app rfl (.tmp 17) (.tmp 24) _ _ rfl _ _ (by simp [Act.eval, Act.put]) (by simp [Act.eval, Act.put, hxl]) (hrA _) ?_) | (go_at_call 124; refine hput.mono ?_; rintro e wC ⟨aC, cC, rfl, hoC, hbC⟩; have hsz : W.heap.size ≤ wB.heap.size := Nat.le_trans HX.out.2.2.size hbB.size; have hbC1 : Below W.heap.size wr wC := hbB.trans (hbC.mono hsz); have hS3 : wC.cell? ⟨w.heap.size, 0, none⟩ = some (.slice (some ⟨b0, off, none⟩) t.ins.length ic) ∧ row? wC ⟨b0, off + k * 37, none⟩ 33 = some x.prev.arr ∧ wC.cell? ⟨b0, off + k * 37 + 33, none⟩ = some (.int .i64 x.seq) := HS.out wC hbC1; obtain ⟨vD, wD, hrD, hoD, huD, hnD⟩ := own_app (c := cC) (ownsRow_below hoB hbC) (own_news hoC).1 (own_news hoC).2 (Nat.le_trans hsz hbC.size) (by simp only [List.length_append]; omega); have hbD : Below W.heap.size wr wD := hbC1.trans (huD.below (Nat.le_trans hsz hbC.size) (own_base hoB)); have hS4 : wD.cell? ⟨w.heap.size, 0, none⟩ = some (.slice (some ⟨b0, off, none⟩) t.ins.length ic) ∧ row? wD ⟨b0, off + k * 37, none⟩ 33 = some x.prev.arr ∧ wD.cell? ⟨b0, off + k * 37 + 33, none⟩ = some (.int .i64 x.seq) := HS.out wD hbD) | (refine step_app rfl (.tmp 25) (.tmp 32) _ _ rfl _ _ (by simp [Act.eval, Act.put]) (by simp [Act.eval, Act.put]) (hrD _) ?_))
      go_wp2_with fail
      refine ⟨⟨k + 1, by omega, by go_num, ?_, HX.out.2.2.trans hbD⟩, by simp [intOf]; omega⟩
      rw [HX.out.1, List.length_append, List.length_append]
      exact hoD
    · obtain rfl : k = t.ins.length := by omega
      rw [List.take_length] at ho
      obtain ⟨L, hL⟩ : ∃ L, L = L0 ++ t.ins.flatMap inB := ⟨_, rfl⟩
      rw [← hL] at ho
      have hLl : L.length ≤ 50000009 := by have := HS1.out t.ins.length; rw [List.take_length] at this; rw [hL, List.length_append]; omega
      have HHL := Lib.hid hL
      obtain ⟨N1, hN1⟩ : ∃ L, L = encN [(t.outs.length : Int)] := ⟨_, rfl⟩
      have hN1l : N1.length ≤ 9 := by rw [hN1]; exact encN_le _
      have hp1 : Calls Try.prog 124 #[.int .i64 t.outs.length] wr (RetBytes wr N1) := by rw [hN1, encN_one]; exact put_ref _ (by simp [OkNum]; omega) wr
      have HN1 := Lib.hid hN1
      obtain ⟨q0, q1, q2⟩ := HC.out wr hbr
      clear hN1 hL hlt hk
      go_wp2_with fail
      refine hp1.mono ?_
      rintro e w2 ⟨a2, c2, rfl, ho2, hb2⟩
      have hsz : W.heap.size ≤ w2.heap.size := Nat.le_trans hbr.size hb2.size
      obtain ⟨v3, w3, hr3, ho3, hu3, hn3⟩ := own_app (c := c2) (ownsRow_below ho hb2) (own_news ho2).1 (own_news ho2).2 hsz (by omega)
      have hb3 : Below W.heap.size W w3 := (hbr.trans (hb2.mono hbr.size)).trans (hu3.below hsz (own_base ho))
      obtain ⟨L1, hL1⟩ : ∃ L1, L1 = L ++ N1 := ⟨_, rfl⟩
      rw [← hL1] at ho3
      have hL1l : L1.length ≤ 50000018 := by rw [hL1, List.length_append]; omega
      have ho3' : w3.ownsRow W.heap.size 5 1 v3 L1.length (byteVs L1) := by rw [hL1, List.length_append, ← hL1]; exact ho3
      have HL1 := Lib.hid hL1
      have HR := Lib.hid (hr3 96)
      clear hL1 hr3 ho3 hu3 hn3 ho2 hb2 hp1 q0 q1 q2 ho hbr hsz
      go_wp2_with (at_builtin; refine wpList_run rfl _ _ _ _ rfl _ _ rfl rfl HR.out ?_)
      clear HR
      go_loopw [3, 5] (fun v i wr => ∃ k : Nat, k ≤ t.outs.length ∧ i = .int .i64 k ∧ wr.ownsRow W.heap.size 5 1 v (L1 ++ (t.outs.take k).flatMap outB).length (byteVs (L1 ++ (t.outs.take k).flatMap outB)) ∧ Below W.heap.size W wr) (fun _ i _ => t.outs.length - (intOf i).toNat)
      case atStart => exact ⟨0, Nat.zero_le _, rfl, by simpa using ho3', hb3⟩
      case round =>
        clear ho3' hb3
        obtain ⟨k, hk, rfl, ho, hbr⟩ := hrel
        by_cases hlt : k < t.outs.length
        · obtain ⟨b0, off, rfl, hb0, hr⟩ := (HR2.out.below hbr).at hlt
          obtain ⟨hnp, hns⟩ := HN.out.2 _ (List.getElem_mem hlt)
          obtain ⟨x, hx⟩ : ∃ x, x = t.outs[k] := ⟨_, rfl⟩
          rw [← hx] at hr hnp hns
          obtain ⟨M, hM⟩ : ∃ M, M = L1 ++ (t.outs.take k).flatMap outB := ⟨_, rfl⟩
          have hnext : L1 ++ (t.outs.take (k + 1)).flatMap outB = M ++ putS x.value.toNat ++ (encN x.script.ints ++ x.script.hash.l) := by
            rw [flat_take outB hlt, ← hx, hM]; simp [outB, encN_one]
          have hMl : M.length ≤ 145000018 := by have := HS2.out k; rw [hM, List.length_append]; omega
          rw [← hM] at ho
          have HX := Lib.hid (And.intro hnext (And.intro ho hbr))
          have hS : ∀ Q, Below W.heap.size wr Q → Q.cell? ⟨w.heap.size, 1, none⟩ = some (.slice (some ⟨b0, off, none⟩) t.outs.length oc) ∧ row? Q ⟨b0, off + k * 39 + 1, none⟩ 38 = some x.script.arr ∧ Q.cell? ⟨b0, off + k * 39, none⟩ = some (.int .i64 x.value) := by
            intro Q hQ
            have hrq := (row?_below hQ (a := ⟨b0, off + k * 39, none⟩) hb0 39).trans hr
            refine ⟨(HC.out Q (hbr.trans hQ)).2.1, ?_, ?_⟩
            · have := row?_part hrq 1 38 (by omega)
              rw [Out.ext_1] at this
              exact this
            · have := row?_cellAt hrq 0 (by omega)
              rw [Out.arr_0] at this
              exact this
          have HS := Lib.hid hS
          have hS0 := hS wr.drew (Below.refl _ _).drew
          have j0 : (0 : Int) ≤ (k : Int) := by omega
          have j1 : (k : Int) < (t.outs.length : Int) := by omega
          have hpt := put_ref x.value hnp wr.drew
          have hle := putS_le x.value.toNat
          have hxl := x.script.hash.len
          have hle2 := encN_le x.script.ints
          have hle3 : x.script.ints.length = 6 := rfl
          have HXX := Lib.hid hx
          have HNS := Lib.hid hns
          have HHM := Lib.hid hM
          obtain ⟨q0, q1, q2⟩ := HC.out wr hbr
          clear hS hnext hx hns hM hr hnp
          go_upto_region 10 with fail
          go_region_held3 (fun X : World => X.cell? ⟨w.heap.size, 1, none⟩ = some (.slice (some ⟨b0, off, none⟩) t.outs.length oc) ∧ row? X ⟨b0, off + k * 39 + 1, none⟩ 38 = some x.script.arr ∧ X.cell? ⟨b0, off + k * 39, none⟩ = some (.int .i64 x.value)) (first | exact hS0 | exact hS1 | exact hS2 | exact hS3 | exact hS4) (first | (go_at_call 124; refine hpt.mono ?_; rintro e wA ⟨aA, cA, rfl, hoA, hbA⟩; have hbA1 : Below wr.heap.size wr wA := ((Below.refl _ _).drew).trans hbA; have hS1 : wA.cell? ⟨w.heap.size, 1, none⟩ = some (.slice (some ⟨b0, off, none⟩) t.outs.length oc) ∧ row? wA ⟨b0, off + k * 39 + 1, none⟩ 38 = some x.script.arr ∧ wA.cell? ⟨b0, off + k * 39, none⟩ = some (.int .i64 x.value) := HS.out wA (hbA1.mono HX.out.2.2.size); obtain ⟨vA, wB, hrA, hoB, huB, hnB⟩ := own_app (c := cA) (ownsRow_below HX.out.2.1 hbA1) (own_news hoA).1 (own_news hoA).2 (Nat.le_trans HX.out.2.2.size hbA1.size) (by omega); have hbB : Below W.heap.size wr wB := (hbA1.mono HX.out.2.2.size).trans (huB.below (Nat.le_trans HX.out.2.2.size hbA1.size) (own_base HX.out.2.1)); have hS2 : wB.cell? ⟨w.heap.size, 1, none⟩ = some (.slice (some ⟨b0, off, none⟩) t.outs.length oc) ∧ row? wB ⟨b0, off + k * 39 + 1, none⟩ 38 = some x.script.arr ∧ wB.cell? ⟨b0, off + k * 39, none⟩ = some (.int .i64 x.value) := HS.out wB hbB; have hput := scripted_ref x.script HNS.out wB) | (refine step_app rfl (.tmp 47) (.tmp 54) _ _ rfl _ _ (by simp [Act.eval, Act.put]) (by simp [Act.eval, Act.put, hxl]) (hrA _) ?_) | (go_at_call 126; refine hput.mono ?_; rintro e wC ⟨aC, cC, rfl, hoC, hbC⟩; have hsz : W.heap.size ≤ wB.heap.size := Nat.le_trans HX.out.2.2.size hbB.size; have hbC1 : Below W.heap.size wr wC := hbB.trans (hbC.mono hsz); have hS3 : wC.cell? ⟨w.heap.size, 1, none⟩ = some (.slice (some ⟨b0, off, none⟩) t.outs.length oc) ∧ row? wC ⟨b0, off + k * 39 + 1, none⟩ 38 = some x.script.arr ∧ wC.cell? ⟨b0, off + k * 39, none⟩ = some (.int .i64 x.value) := HS.out wC hbC1; obtain ⟨vD, wD, hrD, hoD, huD, hnD⟩ := own_app (c := cC) (ownsRow_below hoB hbC) (own_news hoC).1 (own_news hoC).2 (Nat.le_trans hsz hbC.size) (by simp only [List.length_append]; omega); have hbD : Below W.heap.size wr wD := hbC1.trans (huD.below (Nat.le_trans hsz hbC.size) (own_base hoB)); have hS4 : wD.cell? ⟨w.heap.size, 1, none⟩ = some (.slice (some ⟨b0, off, none⟩) t.outs.length oc) ∧ row? wD ⟨b0, off + k * 39 + 1, none⟩ 38 = some x.script.arr ∧ wD.cell? ⟨b0, off + k * 39, none⟩ = some (.int .i64 x.value) := HS.out wD hbD) | (refine step_app rfl (.tmp 55) (.tmp 62) _ _ rfl _ _ (by simp [Act.eval, Act.put]) (by simp [Act.eval, Act.put, hxl]) (hrD _) ?_))
          go_wp2_with fail
          refine ⟨⟨k + 1, by omega, by go_num, ?_, HX.out.2.2.trans hbD⟩, by simp [intOf]; omega⟩
          rw [HX.out.1, List.length_append, List.length_append]
          exact hoD
        · obtain rfl : k = t.outs.length := by omega
          rw [List.take_length] at ho
          obtain ⟨M, hM⟩ : ∃ M, M = L1 ++ t.outs.flatMap outB := ⟨_, rfl⟩
          rw [← hM] at ho
          have hMl : M.length ≤ 145000018 := by have := HS2.out t.outs.length; rw [List.take_length] at this; rw [hM, List.length_append]; omega
          have HHM := Lib.hid hM
          have hp1 := put_ref t.lock HL.out wr
          obtain ⟨q0, q1, q2⟩ := HC.out wr hbr
          have hle := putS_le t.lock.toNat
          have hpos := putS_pos t.lock.toNat
          clear hM hlt hk
          go_wp2_with fail
          refine hp1.mono ?_
          rintro e w2 ⟨a2, c2, rfl, ho2, hb2⟩
          have hsz : W.heap.size ≤ w2.heap.size := Nat.le_trans hbr.size hb2.size
          obtain ⟨v3, w3, hr3, ho3, hu3, hn3⟩ := own_app (c := c2) (ownsRow_below ho hb2) (own_news ho2).1 (own_news ho2).2 hsz (by omega)
          have hb3 : Below W.heap.size W w2 := hbr.trans (hb2.mono hbr.size)
          have HR := Lib.hid (hr3 96)
          clear hr3
          go_wp2_with (at_builtin; refine wpList_run rfl _ _ _ _ rfl _ _ rfl rfl HR.out ?_)
          go_ret
          refine bytes_end (HBW.out.trans (hb3.mono HBW.out.size)) (fun j hj => Nat.le_trans (Nat.le_of_lt hwl) (own_base ho j hj)) (ho3.mono (Nat.le_of_lt hwl)) hu3 (by omega) _ ?_
          rw [HHM.out, HL1.out, HHL.out, HL0.out, HN1.out, ← encN_one]
          simp [bodyS]
theorem bytesAt_row {w : World} {base : Nat} {a : Addr} {c : Nat} {l : List UInt8} (h : w.ownsRow base 5 1 (.slice (some a) l.length c) l.length (byteVs l)) : bytesAt w ⟨some a, l.length, c⟩ l w.heap.size ∧ l.length ≤ c := by
  obtain ⟨a', c', e, hc, hg⟩ := ownsRow_slice h
  cases e
  refine ⟨⟨rfl, fun hl => ?_⟩, hc⟩
  obtain ⟨g, cap, e2, _, hlt⟩ := h.form (by cases l <;> simp_all)
  cases e2
  refine ⟨g, 0, rfl, hlt, fun k hk => ?_⟩
  have := (own_news h).2 k (byteV l[k]) (by simp [byteVs, hk])
  have e : (⟨g, 0, none⟩ : Addr).add k = ⟨g, 0 + k, none⟩ := by unfold Addr.add; split <;> simp_all
  rw [← e]; exact this
set_option maxRecDepth 100000 in
set_option maxHeartbeats 1000000 in
theorem id_ref (v : TxV) (t : Tx) (w : World) (ht : isTx w v t w.heap.size) :
    Calls Try.prog 27 #[.agg v.arr] w fun e w' => e = .returned (.agg (idS t).arr) ∧ Below w.heap.size w w' := by
  by_cases h0 : checkS t = 0
  · have t0 : (checkS t != 0) = false := by simp [h0]
    have hok := checkS_ok h0
    have hbl := bodyS_le t (by omega) (by omega)
    have H0 := Lib.hid h0
    clear h0
    go_enter Try.func27, Try.ntmps27
    go_wp2_with fail
    obtain ⟨W, hW⟩ : ∃ W, W = (w.alloc (.cells v.arr 51)).alloc (.cells Hash.zero.arr 30) := ⟨_, rfl⟩
    obtain ⟨hb, hhb⟩ : ∃ hb, hb = w.heap.size + 1 := ⟨_, rfl⟩
    rw [← hW, ← hhb]
    have hbW : Below w.heap.size w W := hW ▸ ((Below.refl w.heap.size w).alloc (Nat.le_refl _) _).alloc (by simp) _
    have hWs : W.heap.size = w.heap.size + 2 := by rw [hW]; simp
    have hHW : W.heap[hb]? = some (.cells Hash.zero.arr 30 (0, 0)) := by rw [hW, hhb]; show ((w.heap.push _).push _)[w.heap.size + 1]? = _; rw [show w.heap.size + 1 = (w.heap.push (.cells v.arr 51)).size by simp, Array.getElem?_push_size]
    have hTW : row? W ⟨w.heap.size, 0, none⟩ 3 = some v.arr := by rw [hW, row?_alloc_past _ _ _ _ (by simp), row?_alloc_at _ _ _ _ _ _ _ rfl]; simp
    refine (check_ref v t W ((ht.below hbW).mono hbW.size)).mono ?_
    rintro e w1 ⟨rfl, hb1⟩
    have hT1 : row? w1 ⟨w.heap.size, 0, none⟩ 3 = some v.arr := by rw [row?_below hb1 (by simp; omega)]; exact hTW
    have hH1 : w1.heap[hb]? = some (.cells Hash.zero.arr 30 (0, 0)) := by rw [hb1.block hb (by omega)]; exact hHW
    have hb01 : Below w.heap.size w w1 := hbW.trans (hb1.mono (by omega))
    have hs1 := hb1.size
    have ht1 : isTx w1 v t w1.heap.size := (ht.below hb01).mono hb01.size
    have hge : w.heap.size ≤ hb := by omega
    have hlt1 : hb < w1.heap.size := by omega
    have HH1 := Lib.hid hH1
    clear hW hhb hWs hHW hTW hbW hb1 hH1
    go_wp2_with fail
    refine (bodyref v t w1 ht1 (by omega) (by omega) hok.2.2.2.1 hok.2.2.2.2.1 hok.2.2.2.2.2).mono ?_
    rintro e w2 ⟨a2, c2, rfl, ho2, hb2⟩
    have hby := bytesAt_row ho2
    have HBY := Lib.hid hby
    have hs2 := hb2.size
    clear ho2 hby
    go_wp2_with fail
    refine (twice_ref ⟨some a2, (bodyS t).length, c2⟩ (bodyS t) w2 HBY.out.1 HBY.out.2 (by omega)).mono ?_
    rintro e w3 ⟨rfl, hb3⟩
    have hb13 : Below w1.heap.size w1 w3 := hb2.trans (hb3.mono hs2)
    have HH3 : Hid (w3.heap[hb]? = some (.cells Hash.zero.arr 30 (0, 0))) := by unfold Hid; rw [hb13.block hb hlt1]; exact HH1.out
    have hs3 := hb13.size
    go_wp2_with (refine wpList_storeHash (.tmp 2) (.tmp 9) rfl rfl hb (twiceS (bodyS t)) Hash.zero rfl rfl HH3.out ?_; intro wz hhz huz)
    refine bodyPost_ret (results_cell_row rfl _ _ hb 30 (twiceS (bodyS t)).arr (0, 0) _ rfl hhz Try.underlying30 rfl (by rw [size_Hash]; simp)) rfl ⟨by unfold idS; rw [if_pos H0.out], ?_⟩
    exact hb01.trans ((hb13.mono hb01.size).trans (huz.below (by omega) (fun i e => by have e2 : i = hb := e; omega)))
  · have t0 : (checkS t != 0) = true := by simpa using h0
    have H0 := Lib.hid h0
    clear h0
    go_enter Try.func27, Try.ntmps27
    go_wp2_with fail
    obtain ⟨W, hW⟩ : ∃ W, W = (w.alloc (.cells v.arr 51)).alloc (.cells Hash.zero.arr 30) := ⟨_, rfl⟩
    obtain ⟨hb, hhb⟩ : ∃ hb, hb = w.heap.size + 1 := ⟨_, rfl⟩
    rw [← hW, ← hhb]
    have hbW : Below w.heap.size w W := hW ▸ ((Below.refl w.heap.size w).alloc (Nat.le_refl _) _).alloc (by simp) _
    have hWs : W.heap.size = w.heap.size + 2 := by rw [hW]; simp
    have hHW : W.heap[hb]? = some (.cells Hash.zero.arr 30 (0, 0)) := by rw [hW, hhb]; show ((w.heap.push _).push _)[w.heap.size + 1]? = _; rw [show w.heap.size + 1 = (w.heap.push (.cells v.arr 51)).size by simp, Array.getElem?_push_size]
    have hTW : row? W ⟨w.heap.size, 0, none⟩ 3 = some v.arr := by rw [hW, row?_alloc_past _ _ _ _ (by simp), row?_alloc_at _ _ _ _ _ _ _ rfl]; simp
    refine (check_ref v t W ((ht.below hbW).mono hbW.size)).mono ?_
    rintro e w1 ⟨rfl, hb1⟩
    have hT1 : row? w1 ⟨w.heap.size, 0, none⟩ 3 = some v.arr := by rw [row?_below hb1 (by simp; omega)]; exact hTW
    have hH1 : w1.heap[hb]? = some (.cells Hash.zero.arr 30 (0, 0)) := by rw [hb1.block hb (by omega)]; exact hHW
    have hb01 : Below w.heap.size w w1 := hbW.trans (hb1.mono (by omega))
    have hs1 := hb1.size
    have ht1 : isTx w1 v t w1.heap.size := (ht.below hb01).mono hb01.size
    have hge : w.heap.size ≤ hb := by omega
    have hlt1 : hb < w1.heap.size := by omega
    have HH1 := Lib.hid hH1
    clear hW hhb hWs hHW hTW hbW hb1 hH1
    go_wp2_with (refine wpList_storeHash (.tmp 2) (.tmp 6) rfl rfl hb Hash.zero Hash.zero rfl rfl HH1.out ?_; intro wz hhz huz)
    refine bodyPost_ret (results_cell_row rfl _ _ hb 30 Hash.zero.arr (0, 0) _ rfl hhz Try.underlying30 rfl (by rw [size_Hash]; simp)) rfl ⟨by unfold idS; rw [if_neg H0.out], ?_⟩
    exact hb01.trans (huz.below (by omega) (fun i e => by have e2 : i = hb := e; omega))
end Go.Proofs.Ytaopiefbejajkaa
