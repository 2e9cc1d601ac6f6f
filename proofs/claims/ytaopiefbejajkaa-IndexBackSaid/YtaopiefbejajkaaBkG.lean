/- Law IndexBack: are blocks' transactions few? Law IndexBack: few. Law IndexBack: the document's Points. Law IndexBack: points, all that some transactions spend, and make. Law IndexBack: two indexes side by side. Law IndexBack: the walk. Law IndexBack, whole. -/
import Derived.Test.YtaopiefbejajkaaLight
import Derived.Test.YtaopiefbejajkaaIdxD
import Derived.Test.YtaopiefbejajkaaIdxJ
import Derived.Test.YtaopiefbejajkaaRfF
import Derived.Test.YtaopiefbejajkaaIdxM
import Derived.Test.YtaopiefbejajkaaOpenT
set_option linter.unusedSimpArgs false
set_option linter.unusedVariables false
namespace Go.Proofs.Ytaopiefbejajkaa
open Go.RowKit
def allLightS (l : List Tx) (most : Int) : Bool := decide ((l.length : Int) ≤ most) && l.all (fun t => lightS t most)
theorem allLight_no {l : List Tx} {most : Int} {k : Nat} (hk : k < l.length) (h : lightS l[k] most = false) : allLightS l most = false := by
  unfold allLightS
  have : l.all (fun t => lightS t most) = false := by
    rw [List.all_eq_false]
    exact ⟨_, List.getElem_mem hk, by simp [h]⟩
  rw [this]; simp
theorem allLight_yes {l : List Tx} {most : Int} (hl : (l.length : Int) ≤ most) (h : ∀ k (hk : k < l.length), lightS l[k] most = true) : allLightS l most = true := by
  unfold allLightS
  rw [decide_eq_true hl, Bool.true_and, List.all_eq_true]
  intro x hx
  obtain ⟨k, hk, rfl⟩ := List.mem_iff_getElem.1 hx
  exact h k hk
set_option maxRecDepth 100000 in
set_option maxHeartbeats 1000000 in
theorem all_light (s : Sl) (vs : List TxV) (l : List Tx) (most : Int) (w : World) (h : txsAt w s vs l) (hm : most ≤ 1000000) :
    Calls Try.prog 82 #[.slice s.a s.n s.c, .int .i64 most] w fun e w' => e = .returned (.bool (allLightS l most)) ∧ Below w.heap.size w w' := by
  obtain ⟨⟨hm1, hcc1, hr1⟩, hvl, htx⟩ := h
  obtain ⟨sa, sn, sc⟩ := s
  simp only at hm1 hcc1 hr1
  rw [hvl] at hm1
  subst hm1
  by_cases c1 : most < (l.length : Int)
  · have e1 : decide (most < (l.length : Int)) = true := decide_eq_true c1
    have hS : Hid (allLightS l most = false) := by unfold Hid allLightS; rw [decide_eq_false (by omega)]; rfl
    clear c1
    go_enter Try.func82, Try.ntmps82
    go_wp2_with fail
    go_ret
    exact ⟨by rw [hS.out]; rfl, Below.refl _ _⟩
  · have e1 : decide (most < (l.length : Int)) = false := decide_eq_false c1
    have hlm : (l.length : Int) ≤ most := by omega
    have HLM := Lib.hid hlm
    have HTX := Lib.hid htx
    have HVL := Lib.hid hvl
    have HR := Lib.hid hr1
    clear c1 htx hvl hlm hr1
    go_enter Try.func82, Try.ntmps82
    go_wp2_with fail
    go_loopw [5] (fun v wr => ∃ k : Nat, k ≤ l.length ∧ v = .int .i64 k ∧ Hid (∀ j (hj : j < l.length), j < k → lightS l[j] most = true) ∧ Below w.heap.size w wr) (fun v _ => l.length - (intOf v).toNat)
    case atStart => exact ⟨0, Nat.zero_le _, rfl, fun j _ h => absurd h (by omega), Below.refl _ _⟩
    case round =>
      obtain ⟨k, hk, rfl, hall, hbr⟩ := hrel
      by_cases hlt : k < l.length
      · have hvk : k < vs.length := by rw [HVL.out]; exact hlt
        obtain ⟨b0, off, rfl, hb0, hr⟩ := (HR.out.below hbr).at hvk
        have hli := light_al vs[k] l[k] most wr (((HTX.out k hvk hlt).below hbr).mono hbr.size) hm
        have e2 : decide ((k : Int) < (l.length : Int)) = true := decide_eq_true (by omega)
        have j0 : (0 : Int) ≤ (k : Int) := by omega
        have j1 : (k : Int) < (l.length : Int) := by omega
        have j2 : k < 1000000 := by have := HLM.out; omega
        obtain ⟨b, hb⟩ : ∃ b, b = lightS l[k] most := ⟨_, rfl⟩
        rw [← hb] at hli
        have HB : Hid (lightS l[k] most = b) := hb.symm
        have HNO : b = false → Hid (allLightS l most = false) := fun h => allLight_no hlt (hb.symm.trans h)
        obtain ⟨x, hx⟩ : ∃ x, x = vs[k] := ⟨_, rfl⟩
        rw [← hx] at hli hr
        clear hb hx
        cases b with
        | false =>
          have HN2 := HNO rfl
          clear HB hall HNO
          go_wp2_with fail
          refine hli.mono ?_
          rintro e w2 ⟨rfl, hb2⟩
          go_wp2_with fail
          go_ret
          exact ⟨by rw [HN2.out]; rfl, hbr.trans (hb2.mono hbr.size)⟩
        | true =>
          clear HNO
          go_wp2_with fail
          refine hli.mono ?_
          rintro e w2 ⟨rfl, hb2⟩
          clear hli
          go_wp2_with fail
          refine ⟨⟨k + 1, by omega, by go_num, fun j hj h => ?_, hbr.trans (hb2.mono hbr.size)⟩, by simp [intOf]; omega⟩
          by_cases e : j = k
          · subst e; exact HB.out
          · exact hall.out j hj (by omega)
      · obtain rfl : k = l.length := by omega
        clear hlt hk
        go_wp2_with fail
        go_ret
        exact ⟨by rw [allLight_yes HLM.out (fun j hj => hall.out j hj hj)]; rfl, hbr⟩
end Go.Proofs.Ytaopiefbejajkaa
namespace Go.Proofs.Ytaopiefbejajkaa
open Go.RowKit
def slC (s : Sl) : Array Value := #[.slice s.a s.n s.c]
/-- Blocks of transactions behind a slice. -/
structure BlksAt (w : World) (s : Sl) (ss : List Sl) (l : List (List Tx)) : Prop where
  sl : isSl w s 1 slC ss w.heap.size
  len : ss.length = l.length
  txs : ∀ k (h : k < ss.length) (h2 : k < l.length), ∃ vs, txsAt w ss[k] vs l[k]
theorem BlksAt.below {w w' : World} {s : Sl} {ss : List Sl} {l : List (List Tx)} (h : BlksAt w s ss l) (hb : Below w.heap.size w w') : BlksAt w' s ss l :=
  ⟨(h.sl.below hb).mono hb.size, h.len, fun k h1 h2 => by obtain ⟨vs, h3⟩ := h.txs k h1 h2; exact ⟨vs, h3.below hb⟩⟩
theorem BlksAt.cell {w : World} {s : Sl} {ss : List Sl} {l : List (List Tx)} (h : BlksAt w s ss l) {k : Nat} (hk : k < ss.length) : ∃ b off, s.a = some ⟨b, off, none⟩ ∧ b < w.heap.size ∧ w.cell? ⟨b, off + k, none⟩ = some (.slice ss[k].a ss[k].n ss[k].c) := by
  obtain ⟨b, off, e, hb, hr⟩ := h.sl.2.2.at hk
  refine ⟨b, off, e, hb, ?_⟩
  have := row?_cellAt hr 0 (by omega)
  simp only [Nat.mul_one, Nat.add_zero, slC] at this
  simpa using this
def sumS (l : List (List Tx)) : Nat := (l.map List.length).sum
theorem sumS_take {l : List (List Tx)} {k : Nat} (hk : k < l.length) : sumS (l.take (k + 1)) = sumS (l.take k) + l[k].length := by
  unfold sumS
  rw [List.take_succ_eq_append_getElem hk, List.map_append, List.sum_append]
  simp only [List.map_cons, List.map_nil, List.sum_cons, List.sum_nil, Nat.add_zero]
def fewS (l : List (List Tx)) : Bool := (l.take 20).all (fun b => allLightS b 12) && (decide (l.length ≤ 20) && decide (sumS (l.take 20) ≤ 40))
theorem few_no {l : List (List Tx)} {k : Nat} (hk : k < l.length) (h20 : k < 20) (h : allLightS l[k] 12 = false) : fewS l = false := by
  unfold fewS
  have : (l.take 20).all (fun b => allLightS b 12) = false := by
    rw [List.all_eq_false]
    refine ⟨l[k], ?_, by simp [h]⟩
    rw [show l[k] = (l.take 20)[k]'(by simp; omega) by simp]
    exact List.getElem_mem _
  rw [this]; simp
theorem few_yes {l : List (List Tx)} (h : ∀ k (hk : k < l.length), k < 20 → allLightS l[k] 12 = true) : fewS l = (decide (l.length ≤ 20) && decide (sumS (l.take 20) ≤ 40)) := by
  unfold fewS
  have : (l.take 20).all (fun b => allLightS b 12) = true := by
    rw [List.all_eq_true]
    intro x hx
    obtain ⟨k, hk, rfl⟩ := List.mem_iff_getElem.1 hx
    simp only [List.length_take] at hk
    simp only [List.getElem_take]
    exact h k (by omega) (by omega)
  rw [this]; simp
set_option maxRecDepth 100000 in
set_option maxHeartbeats 1000000 in
theorem few_bk (s : Sl) (ss : List Sl) (l : List (List Tx)) (w : World) (h : BlksAt w s ss l) (hl : l.length ≤ 9223372036854775807) :
    Calls Try.prog 28 #[.slice s.a s.n s.c] w fun e w' => e = .returned (.bool (fewS l)) ∧ Below w.heap.size w w' := by
  obtain ⟨sa, sn, sc⟩ := s
  have hn : sn = l.length := by have := h.sl.1; rw [h.len] at this; exact this
  subst hn
  have HB := Lib.hid h
  clear h
  go_enter Try.func28, Try.ntmps28
  go_wp2_with fail
  go_loopw [3, 4] (fun n i wr => ∃ k m : Nat, k ≤ l.length ∧ k ≤ 20 ∧ i = .int .i64 k ∧ n = .int .i64 m ∧ m ≤ 12 * k ∧ Hid (m = sumS (l.take k)) ∧ Hid (∀ j (hj : j < l.length), j < k → allLightS l[j] 12 = true) ∧ Below w.heap.size w wr) (fun _ i _ => 20 - (intOf i).toNat)
  case atStart => exact ⟨0, 0, Nat.zero_le _, by omega, rfl, rfl, by omega, rfl, fun j _ h => absurd h (by omega), Below.refl _ _⟩
  case round =>
    obtain ⟨k, m, hk, hk20, rfl, rfl, hm, hsum, hall, hbr⟩ := hrel
    by_cases hlt : k < l.length
    case neg =>
      have hkl : k = l.length := by omega
      have e1 : decide ((k : Int) < (l.length : Int)) = false := decide_eq_false (by omega)
      have e2 : decide ((l.length : Int) ≤ 20) = true := decide_eq_true (by omega)
      have n1 : ¬ k < l.length := hlt
      have hR : Hid (fewS l = decide ((m : Int) ≤ 40)) := by
        unfold Hid
        rw [few_yes (fun j hj _ => hall.out j hj (by omega)), decide_eq_true (show l.length ≤ 20 by omega), Bool.true_and]
        rw [show l.take 20 = l.take k by rw [List.take_of_length_le (by omega), List.take_of_length_le (by omega)], ← hsum.out]
        congr 1; exact propext ⟨fun h => by omega, fun h => by omega⟩
      obtain ⟨q, hq⟩ : ∃ q, q = decide ((m : Int) ≤ 40) := ⟨_, rfl⟩
      rw [← hq] at hR
      have hkl' := Lib.hid hkl
      clear hkl hsum hall hlt
      go_wp2_with fail
      go_ret
      exact ⟨by rw [hR.out, hq]; rfl, hbr⟩
    by_cases h20 : k < 20
    case neg =>
      have hk2 : k = 20 := by omega
      have e1 : decide ((k : Int) < (l.length : Int)) = true := decide_eq_true (by omega)
      have e2 : decide ((k : Int) < 20) = false := decide_eq_false (by omega)
      have e3 : decide ((l.length : Int) ≤ 20) = false := decide_eq_false (by omega)
      have n3 : ¬ l.length ≤ 20 := by omega
      have hR : Hid (fewS l = false) := by
        unfold Hid
        rw [few_yes (fun j hj h => hall.out j hj (by omega)), decide_eq_false n3]; rfl
      clear hk2 hsum hall
      go_wp2_with fail
      go_ret
      exact ⟨by rw [hR.out]; rfl, hbr⟩
    have hks : k < ss.length := by rw [HB.out.len]; exact hlt
    obtain ⟨b, off, e, hb, hcell⟩ := (HB.out.below hbr).cell hks
    simp only at e
    subst e
    obtain ⟨vs, htx⟩ := (HB.out.below hbr).txs k hks hlt
    have hal := all_light ss[k] vs l[k] 12 wr htx (by omega)
    have hxn : ss[k].n = l[k].length := htx.1.1.trans htx.2.1
    obtain ⟨c, hc⟩ : ∃ c, c = l[k].length := ⟨_, rfl⟩
    obtain ⟨x, hx⟩ : ∃ x, x = ss[k] := ⟨_, rfl⟩
    rw [← hx] at hal hcell hxn
    obtain ⟨xa, xn, xc⟩ := x
    simp only at hal hcell hxn
    rw [← hc] at hxn
    subst hxn
    have hcB : ∀ X, Below wr.heap.size wr X → X.cell? ⟨b, off + k, none⟩ = some (.slice xa xn xc) := fun X hX => (hX.cell (p := ⟨b, off + k, none⟩) hb).trans hcell
    have HCB := Lib.hid hcB
    obtain ⟨q, hq⟩ : ∃ q, q = allLightS l[k] 12 := ⟨_, rfl⟩
    rw [← hq] at hal
    have HQ : Hid (allLightS l[k] 12 = q) := hq.symm
    have HN : Hid (sumS (l.take (k + 1)) = m + xn) := by unfold Hid; rw [sumS_take hlt, ← hsum.out, hc]
    have HNO : q = false → fewS l = false := fun h => few_no hlt h20 (hq.symm.trans h)
    have HYES : q = true → xn ≤ 12 := fun h => by
      have h2 := hq.symm.trans h
      unfold allLightS at h2
      rw [Bool.and_eq_true] at h2
      have := of_decide_eq_true h2.1
      omega
    have e1 : decide ((k : Int) < (l.length : Int)) = true := decide_eq_true (by omega)
    have e2 : decide ((k : Int) < 20) = true := decide_eq_true (by omega)
    have j0 : (0 : Int) ≤ (k : Int) := by omega
    have j1 : (k : Int) < (l.length : Int) := by omega
    clear hcB hq hc hx htx hsum
    cases q with
    | false =>
      have hR := Lib.hid (HNO rfl)
      clear HNO HYES HQ HN
      go_wp2_with fail
      refine hal.mono ?_
      rintro e w2 ⟨rfl, hb2⟩
      go_wp2_with fail
      go_ret
      exact ⟨by rw [hR.out]; rfl, hbr.trans (hb2.mono hbr.size)⟩
    | true =>
      have h12 := HYES rfl
      clear HNO HYES
      go_wp2_with fail
      refine hal.mono ?_
      rintro e w2 ⟨rfl, hb2⟩
      have hcell2 := HCB.out w2 hb2
      clear hal hcell
      go_wp2_with fail
      refine ⟨⟨k + 1, m + xn, by omega, by omega, by go_num, by go_num, by omega, HN.out.symm, fun j hj h => ?_, hbr.trans (hb2.mono hbr.size)⟩, by simp [intOf]; omega⟩
      by_cases e : j = k
      · subst e; exact HQ.out
      · exact hall.out j hj (by omega)
end Go.Proofs.Ytaopiefbejajkaa
namespace Go.Proofs.Ytaopiefbejajkaa
open Go.RowKit
theorem info_Pt : ∃ i, Try.prog.info? 32 = some i ∧ i.zero = some (.agg Outpoint.zero.arr) ∧ i.size = 33 ∧ i.bytes = 40 := by
  have h : (Try.prog.info? 32).map (fun i => (i.zero, i.size, i.bytes)) = some (some (.agg Outpoint.zero.arr), 33, 40) := by kernel_rfl
  obtain ⟨i0, hi, hz0, hz1, hz2⟩ := info_parts h
  exact ⟨i0, hi, hz0, hz1, hz2⟩
/-- Places put behind places of one's own. -/
theorem own_pts {w : World} {base : Nat} {v : Value} {n : Nat} {l : List Outpoint} (h : w.ownsRow base 32 33 v n (vsOf Outpoint.arr l)) {a : Addr} {k c : Nat} {m : List Outpoint} (hk : k = m.length) (hnews : ∀ j u, (vsOf Outpoint.arr m)[j]? = some u → w.cell? (a.add j) = some u) (hbase : base ≤ w.heap.size) (hl : n + k ≤ 1000000) :
    ∃ v' w', (∀ ty, (Builtin.append_ #[75, 75] ty #[v, .slice (some a) k c]).run Try.prog w = .ok v' w') ∧ w'.ownsRow base 32 33 v' (n + k) (vsOf Outpoint.arr (l ++ m)) ∧ Upd w w' (fun j => v.ownBlock = some j) := by
  obtain ⟨i0, hi0, hz0, hz1, hz2⟩ := info_Pt
  subst hk
  obtain ⟨v', w', hr, h2, h3, h4, h5⟩ := run_append_own_at (P := Try.prog) w base 75 0 32 i0 (.agg Outpoint.zero.arr) 33 40 Try.underlying75 hi0 hz0 hz1 hz2 (by simp [Value.cells]) (by decide) v n _ h a m.length c (vsOf Outpoint.arr m) (vsOf_length Outpoint.arr 33 (fun x => by simp) m) hnews (fun u hu => by obtain ⟨x, _, hx⟩ := List.mem_flatMap.1 hu; exact one_Outpoint x u hx) (by unfold maxLen; omega) (by omega) hbase
  exact ⟨v', w', fun ty => hr, by rw [show vsOf Outpoint.arr (l ++ m) = vsOf Outpoint.arr l ++ vsOf Outpoint.arr m by simp [vsOf]]; exact h2, Upd.grown h3⟩
@[go_sem ↓] theorem execOp_bsl_Outpoint (parts : Array (Nat × Operand)) (ρ : Operand → Value) (dst : Option Tmp) (ty : TypeId) (pos : String) (after : Array Edge) (guard : Option (Nat × Bool)) : execOp ρ { dst := dst, op := .buildSlice 75 1 parts, type := ty, pos := pos, after := after, guard := guard } = (do pure (.value (← bslS 75 1 (parts.map fun (i, x) => (i, ρ x))))) := rfl
@[go_sem] theorem bsl_Outpoint (x : Outpoint) (w : World) : (bslS 75 1 #[(0, .agg x.arr)]).run Try.prog w = .ok (.slice (some ⟨w.heap.size, 0, none⟩) 1 1) (w.alloc (.cells x.arr 32)) :=
  run_buildSlice_one Try.underlying75 size_Outpoint zero_Outpoint (by simp) (by decide) (by decide) x.arr (by simp) w
def ptsS (t : Tx) : List Outpoint := t.ins.map (·.prev)
set_option maxRecDepth 100000 in
set_option maxHeartbeats 1000000 in
theorem points_ref (v : TxV) (t : Tx) (w : World) (ht : isTx w v t w.heap.size) (h1 : t.ins.length ≤ 100000) :
    Calls Try.prog 88 #[.agg v.arr] w fun e w' => ∃ s : Sl, e = .returned (.slice s.a s.n s.c) ∧ w'.ownsRow w.heap.size 32 33 s.v (ptsS t).length (vsOf Outpoint.arr (ptsS t)) ∧ Below w.heap.size w w' := by
  obtain ⟨⟨ia, il, ic⟩, vo, lk⟩ := v
  obtain ⟨⟨hm1, hcc1, hr1⟩, _, _⟩ := ht
  simp only at hm1 hcc1 hr1
  subst hm1
  obtain ⟨W, hW⟩ : ∃ W, W = w.alloc (.cells (TxV.mk ⟨ia, t.ins.length, ic⟩ vo lk).arr 51) := ⟨_, rfl⟩
  have hbW : Below w.heap.size w W := hW ▸ (Below.refl _ _).alloc (Nat.le_refl _) _
  have g1 : W.heap[w.heap.size]? = some (.cells (TxV.mk ⟨ia, t.ins.length, ic⟩ vo lk).arr 51 (0, 0)) := hW ▸ heap_alloc_new w _
  have hcell : ∀ Q, Below W.heap.size W Q → Q.cell? ⟨w.heap.size, 0, none⟩ = some (.slice ia t.ins.length ic) := by
    intro Q hQ
    rw [(cells_known ((hQ.block _ (cells_known g1).2.2).trans g1)).1]
    exact TxV.arr_0 _
  have HC := Lib.hid hcell
  have HR1 := Lib.hid ((hr1.below hbW).mono hbW.size)
  have HBW := Lib.hid hbW
  have hwl : w.heap.size < W.heap.size := (cells_known g1).2.2
  have q0 := HC.out W (Below.refl _ _)
  clear hr1 g1 hcell hbW
  go_enter Try.func88, Try.ntmps88
  go_upto_region 1 with fail
  rw [← hW]
  clear hW
  go_wp2_with fail
  go_loopw [3, 4] (fun l i wr => ∃ k : Nat, k ≤ t.ins.length ∧ i = .int .i64 k ∧ wr.ownsRow W.heap.size 32 33 l k (vsOf Outpoint.arr ((t.ins.take k).map (·.prev))) ∧ Below W.heap.size W wr) (fun _ i _ => t.ins.length - (intOf i).toNat)
  case atStart => exact ⟨0, Nat.zero_le _, rfl, World.ownsRow_nil _ _ _ _, Below.refl _ _⟩
  case round =>
    clear q0
    obtain ⟨k, hk, rfl, ho, hbr⟩ := hrel
    have q0 := HC.out wr hbr
    by_cases hlt : k < t.ins.length
    · obtain ⟨b0, off, rfl, hb0, hr⟩ := (HR1.out.below hbr).at hlt
      obtain ⟨x, hx⟩ : ∃ x, x = t.ins[k] := ⟨_, rfl⟩
      rw [← hx] at hr
      have r1 : row? wr ⟨b0, off + k * 37, none⟩ 33 = some x.prev.arr := by
        have := row?_part hr 0 33 (by omega)
        simp only [Nat.add_zero, Nat.zero_add] at this
        rw [this, In.ext_0]
      have j0 : (0 : Int) ≤ (k : Int) := by omega
      have j1 : (k : Int) < (t.ins.length : Int) := by omega
      have e1 : decide ((k : Int) < (t.ins.length : Int)) = true := decide_eq_true (by omega)
      obtain ⟨W2, hW2⟩ : ∃ W2, W2 = wr.alloc (.cells x.prev.arr 32) := ⟨_, rfl⟩
      have hb2 : Below wr.heap.size wr W2 := hW2 ▸ (Below.refl _ _).alloc (Nat.le_refl _) _
      obtain ⟨v', w3, hr3, ho3, hu3⟩ := own_pts (c := 1) (m := [x.prev]) (k := 1) (ownsRow_below ho hb2) rfl (by rw [show vsOf Outpoint.arr [x.prev] = x.prev.arr.toList by simp [vsOf]]; exact World.news_of_block (hW2 ▸ heap_alloc_new wr (.cells x.prev.arr 32))) (Nat.le_trans hbr.size hb2.size) (by omega)
      have hbl : Below W.heap.size W w3 := (hbr.trans (hb2.mono hbr.size)).trans (hu3.below (Nat.le_trans hbr.size hb2.size) (own_base ho))
      have hnx : (t.ins.take k).map (·.prev) ++ [x.prev] = (t.ins.take (k + 1)).map (·.prev) := by rw [List.take_succ_eq_append_getElem hlt, hx, List.map_append]; rfl
      rw [hnx] at ho3
      rw [hW2] at hr3
      have HR := Lib.hid (hr3 75)
      have HX := Lib.hid (And.intro ho3 hbl)
      clear hr3 hnx hW2 hb2 ho3 hbl hu3 ho hx hr
      go_wp2_with (at_builtin; refine wpList_run rfl _ _ _ _ rfl _ _ rfl rfl HR.out ?_)
      exact ⟨⟨k + 1, by omega, by go_num, HX.out.1, HX.out.2⟩, by simp [intOf]; omega⟩
    · obtain rfl : k = t.ins.length := by omega
      have e1 : decide ((t.ins.length : Int) < (t.ins.length : Int)) = false := decide_eq_false (by omega)
      obtain ⟨sa, sc, hv, _, _⟩ := ownsRow_slice ho
      subst hv
      rw [List.take_length] at ho
      clear hlt hk
      go_wp2_with fail
      go_ret
      exact ⟨⟨sa, t.ins.length, sc⟩, rfl, by rw [show (ptsS t).length = t.ins.length by simp [ptsS]]; exact ho.mono (Nat.le_of_lt hwl), HBW.out.trans (hbr.mono HBW.out.size)⟩
/-- A list of one's own put behind another one. -/
theorem own_both {w : World} {base base2 : Nat} {v : Value} {n : Nat} {l m : List Outpoint} {s : Sl} (h : w.ownsRow base 32 33 v n (vsOf Outpoint.arr l)) (h2 : w.ownsRow base2 32 33 s.v m.length (vsOf Outpoint.arr m)) (hbase : base ≤ w.heap.size) (hl : n + m.length ≤ 1000000) :
    ∃ v' w', (∀ ty, (Builtin.append_ #[75, 75] ty #[v, .slice s.a s.n s.c]).run Try.prog w = .ok v' w') ∧ w'.ownsRow base 32 33 v' (n + m.length) (vsOf Outpoint.arr (l ++ m)) ∧ Upd w w' (fun j => v.ownBlock = some j) := by
  obtain ⟨sa, sn, sc⟩ := s
  rcases h2.2 with ⟨hv, h0⟩ | ⟨g, cap, cur, hv, hg, hh, hnc, hm, hsz, ht⟩
  · unfold Sl.v at hv
    injection hv with e1 e2 e3
    simp only at e1 e2 e3
    subst e1 e2 e3
    have hm0 : m = [] := List.eq_nil_of_length_eq_zero h0
    subst hm0
    obtain ⟨i0, hi0, hz0, hz1, hz2⟩ := info_Pt
    refine ⟨v, w, fun ty => run_append_owned_none w base 75 ty 32 i0 33 Try.underlying75 hi0 v n _ h, ?_, Upd.refl _ _⟩
    rw [List.append_nil]; exact h
  · unfold Sl.v at hv
    injection hv with e1 e2 e3
    simp only at e1 e2 e3
    subst e1 e2 e3
    refine own_pts h rfl (fun j u hu => ?_) hbase hl
    have hj : j < m.length * 33 := by
      have := (List.getElem?_eq_some_iff.1 hu).1
      rwa [vsOf_length Outpoint.arr 33 (fun x => by simp)] at this
    have e : (⟨g, 0, none⟩ : Addr).add j = ⟨g, j, none⟩ := by unfold Addr.add; split <;> simp_all
    rw [e, (World.ownsRow.cellAt h2 j hj)]
    exact hu
end Go.Proofs.Ytaopiefbejajkaa
namespace Go.Proofs.Ytaopiefbejajkaa
open Go.RowKit
def txPts (t : Tx) : List Outpoint := ptsS t ++ (List.range (t.outs.length + 1)).map (fun j => ⟨idS t, (j : Nat)⟩)
def allPts (l : List (List Tx)) : List Outpoint := l.flatMap (fun b => b.flatMap txPts)
def smallL (l : List (List Tx)) : Prop := l.length ≤ 20 ∧ ∀ b ∈ l, b.length ≤ 12 ∧ ∀ t ∈ b, t.ins.length ≤ 12 ∧ t.outs.length ≤ 12
theorem flat_step {α β : Type} (f : α → List β) {l : List α} {k : Nat} (hk : k < l.length) : (l.take (k + 1)).flatMap f = (l.take k).flatMap f ++ f l[k] := by
  rw [List.take_succ_eq_append_getElem hk, List.flatMap_append]; simp
set_option maxRecDepth 100000 in
set_option maxHeartbeats 1000000 in
theorem points_bk (s : Sl) (ss : List Sl) (l : List (List Tx)) (w : World) (h : BlksAt w s ss l) (hl : smallL l) :
    Calls Try.prog 34 #[.slice s.a s.n s.c] w fun e w' => ∃ s' : Sl, e = .returned (.slice s'.a s'.n s'.c) ∧ w'.ownsRow w.heap.size 32 33 s'.v (allPts l).length (vsOf Outpoint.arr (allPts l)) ∧ (allPts l).length ≤ 6000 ∧ Below w.heap.size w w' := by
  obtain ⟨sa, sn, sc⟩ := s
  have hn : sn = l.length := by have := h.sl.1; rw [h.len] at this; exact this
  subst hn
  have hl20 := hl.1
  have HL := Lib.hid hl.2
  have HB := Lib.hid h
  clear h hl
  go_enter Try.func34, Try.ntmps34
  go_wp2_with fail
  go_loopw [3, 4] (fun p i wr => ∃ k n : Nat, k ≤ l.length ∧ i = .int .i64 k ∧ n ≤ 300 * k ∧ wr.ownsRow w.heap.size 32 33 p n (vsOf Outpoint.arr (allPts (l.take k))) ∧ Below w.heap.size w wr) (fun _ i _ => l.length - (intOf i).toNat)
  case atStart => exact ⟨0, 0, Nat.zero_le _, rfl, by omega, World.ownsRow_nil _ _ _ _, Below.refl _ _⟩
  case round =>
    obtain ⟨k, n, hk, rfl, hnk, ho, hbr⟩ := hrel
    by_cases hlt : k < l.length
    case neg =>
      obtain rfl : k = l.length := by omega
      have e1 : decide ((l.length : Int) < (l.length : Int)) = false := decide_eq_false (by omega)
      obtain ⟨pa, pc, hv, _, _⟩ := ownsRow_slice ho
      subst hv
      rw [List.take_length] at ho
      have hnl : n = (allPts l).length := by have := ho.1; rw [vsOf_length Outpoint.arr 33 (fun x => by simp)] at this; omega
      have HO := Lib.hid (And.intro ho hnl)
      clear hlt hk ho hnl
      go_wp2_with fail
      go_ret
      exact ⟨⟨pa, n, pc⟩, rfl, by rw [← HO.out.2]; exact HO.out.1, by rw [← HO.out.2]; omega, hbr⟩
    have hks : k < ss.length := by rw [HB.out.len]; exact hlt
    have hbk := HL.out _ (List.getElem_mem hlt)
    obtain ⟨b, off, e, hb, hcell⟩ := HB.out.cell hks
    simp only at e
    subst e
    obtain ⟨vs, htx⟩ := HB.out.txs k hks hlt
    have hxn : ss[k].n = l[k].length := htx.1.1.trans htx.2.1
    have hflat := flat_step (fun b : List Tx => b.flatMap txPts) hlt
    obtain ⟨x, hx⟩ : ∃ x, x = ss[k] := ⟨_, rfl⟩
    obtain ⟨B, hBl⟩ : ∃ B, B = l[k] := ⟨_, rfl⟩
    rw [← hx] at hcell hxn htx
    rw [← hBl] at hxn htx hbk hflat
    obtain ⟨xa, xn, xc⟩ := x
    simp only at hcell hxn
    subst hxn
    have hcB : ∀ X, Below w.heap.size w X → X.cell? ⟨b, off + k, none⟩ = some (.slice xa B.length xc) := fun X hX => (hX.cell (p := ⟨b, off + k, none⟩) hb).trans hcell
    have HCB := Lib.hid hcB
    have HTX := Lib.hid htx
    have HBK := Lib.hid hbk.2
    have hB12 := hbk.1
    have HFL := Lib.hid hflat
    have e1 : decide ((k : Int) < (l.length : Int)) = true := decide_eq_true (by omega)
    have j0 : (0 : Int) ≤ (k : Int) := by omega
    have j1 : (k : Int) < (l.length : Int) := by omega
    clear hcB hx hBl htx hbk hcell hflat
    go_wp2_with fail
    go_loopw [3, 5] (fun p i wr => ∃ j n : Nat, j ≤ B.length ∧ i = .int .i64 j ∧ n ≤ 300 * k + 25 * j ∧ wr.ownsRow w.heap.size 32 33 p n (vsOf Outpoint.arr (allPts (l.take k) ++ (B.take j).flatMap txPts)) ∧ Below w.heap.size w wr) (fun _ i _ => B.length - (intOf i).toNat)
    case atStart => exact ⟨0, n, Nat.zero_le _, rfl, by omega, by simpa using ho, hbr⟩
    case round =>
      clear hbr ho hnk
      obtain ⟨j, n2, hj, rfl, hnj, ho, hbr⟩ := hrel
      have c0 := HCB.out wr hbr
      by_cases hjl : j < B.length
      case neg =>
        obtain rfl : j = B.length := by omega
        have e2 : decide ((B.length : Int) < (B.length : Int)) = false := decide_eq_false (by omega)
        have hfl : allPts (l.take (k + 1)) = allPts (l.take k) ++ B.flatMap txPts := HFL.out
        rw [List.take_length, ← hfl] at ho
        have HO := Lib.hid ho
        clear ho hfl hjl hj
        go_wp2_with fail
        exact ⟨⟨k + 1, n2, by omega, by go_num, by omega, HO.out, hbr⟩, by simp [intOf]; omega⟩
      have hvj : j < vs.length := by rw [HTX.out.2.1]; exact hjl
      obtain ⟨b1, off1, e', hb1, hrow⟩ := HTX.out.1.2.2.at hvj
      simp only at e'
      subst e'
      have hbt := HBK.out _ (List.getElem_mem hjl)
      have hflat := flat_step txPts hjl
      have htx0 := HTX.out.2.2 j hvj hjl
      obtain ⟨tv, htv⟩ : ∃ tv, tv = vs[j] := ⟨_, rfl⟩
      obtain ⟨t, htt⟩ : ∃ t, t = B[j] := ⟨_, rfl⟩
      rw [← htv] at hrow htx0
      rw [← htt] at htx0 hbt hflat
      have htX : ∀ X, Below w.heap.size w X → isTx X tv t X.heap.size := fun X hX => (htx0.below hX).mono hX.size
      have hrX : ∀ X, Below w.heap.size w X → row? X ⟨b1, off1 + j * 3, none⟩ 3 = some tv.arr ∧ X.cell? ⟨b1, off1 + j * 3 + 1, none⟩ = some (.slice tv.outs.a t.outs.length tv.outs.c) := fun X hX => by
        have h1 := (row?_below hX (a := ⟨b1, off1 + j * 3, none⟩) hb1 3).trans hrow
        refine ⟨h1, ?_⟩
        have h2 := row?_cellAt h1 1 (by omega)
        rw [TxV.arr_1] at h2
        rw [h2, htx0.2.1.1]
      have hpt := points_ref tv t wr (htX wr hbr) (by omega)
      have HTT := Lib.hid htX
      have HRX := Lib.hid hrX
      have HF2 := Lib.hid hflat
      have ho12 := hbt.2
      have hi12 := hbt.1
      have r0 := (hrX wr hbr).1
      have e2 : decide ((j : Int) < (B.length : Int)) = true := decide_eq_true (by omega)
      have j2 : (0 : Int) ≤ (j : Int) := by omega
      have j3 : (j : Int) < (B.length : Int) := by omega
      have hpl : (ptsS t).length = t.ins.length := by simp [ptsS]
      clear htX hrX hflat htx0 htv htt hrow hbt
      go_wp2_with fail
      refine hpt.mono ?_
      rintro e w2 ⟨s2, rfl, ho2, hb2⟩
      obtain ⟨v3, w3, hr3, ho3, hu3⟩ := own_both (ownsRow_below ho hb2) ho2 (Nat.le_trans hbr.size hb2.size) (by omega)
      have hbw3 : Below w.heap.size w w3 := (hbr.trans (hb2.mono hbr.size)).trans (hu3.below (Nat.le_trans hbr.size hb2.size) (own_base ho))
      have hid := id_ref tv t w3 (HTT.out w3 hbw3)
      have r3 := (HRX.out w3 hbw3).1
      have c3 := HCB.out w3 hbw3
      have HR := Lib.hid (hr3 75)
      have HO3 := Lib.hid ho3
      obtain ⟨H, hH⟩ : ∃ H, H = idS t := ⟨_, rfl⟩
      rw [← hH] at hid
      have HHH := Lib.hid hH
      have hn3 : n2 + (ptsS t).length ≤ 300 * k + 25 * j + 12 := by omega
      clear hpt ho ho2 hb2 hr3 ho3 hu3 hH r0 c0 hbr
      go_wp2_with (at_builtin; refine wpList_run rfl _ _ _ _ rfl _ _ rfl rfl HR.out ?_)
      refine hid.mono ?_
      rintro e w4 ⟨rfl, hb4⟩
      clear hid HR r3 c3
      have hbw4 : Below w.heap.size w w4 := hbw3.trans (hb4.mono hbw3.size)
      have ho4 := ownsRow_below HO3.out hb4
      obtain ⟨W5, hW5⟩ : ∃ W5, W5 = w4.alloc (.cells H.arr 30) := ⟨_, rfl⟩
      have hb5 : Below w4.heap.size w4 W5 := hW5 ▸ (Below.refl _ _).alloc (Nat.le_refl _) _
      have g5 : W5.heap[w4.heap.size]? = some (.cells H.arr 30 (0, 0)) := hW5 ▸ heap_alloc_new w4 _
      have hbw5 : Below w.heap.size w W5 := hbw4.trans (hb5.mono hbw4.size)
      have ho5 := ownsRow_below ho4 hb5
      go_upto_region 10 with fail
      rw [← hW5]
      have H5 := Lib.hid (And.intro ho5 (And.intro g5 hbw5))
      obtain ⟨hbx, hhbx⟩ : ∃ q, q = w4.heap.size := ⟨_, rfl⟩
      rw [← hhbx] at H5 ⊢
      clear hW5 hb5 g5 hbw5 ho5 ho4 hbw4 hb4 hbw3 HO3 hhbx
      obtain ⟨L2, hL2⟩ : ∃ L2, L2 = allPts (l.take k) ++ (B.take j).flatMap txPts ++ ptsS t := ⟨_, rfl⟩
      rw [← hL2] at H5
      obtain ⟨n3, hn3e⟩ : ∃ n3, n3 = n2 + (ptsS t).length := ⟨_, rfl⟩
      rw [← hn3e] at H5 hn3
      have HL2 := Lib.hid hL2
      clear hL2 hn3e hpl hnj
      go_wp2_with fail
      go_loopw [3, 7] (fun p i wr => ∃ q n : Nat, q ≤ t.outs.length + 1 ∧ i = .int .i64 q ∧ n ≤ 300 * k + 25 * j + 12 + q ∧ wr.ownsRow w.heap.size 32 33 p n (vsOf Outpoint.arr (L2 ++ (List.range q).map (fun j => (⟨H, (j : Nat)⟩ : Outpoint)))) ∧ wr.heap[hbx]? = some (.cells H.arr 30 (0, 0)) ∧ Below w.heap.size w wr) (fun _ i _ => t.outs.length + 1 - (intOf i).toNat)
      case atStart => exact ⟨0, n3, Nat.zero_le _, rfl, by omega, by simpa using H5.out.1, H5.out.2.1, H5.out.2.2⟩
      case round =>
        clear H5
        obtain ⟨q, n4, hq, rfl, hnq, ho, hgb, hbr⟩ := hrel
        have c0 := HCB.out wr hbr
        have c1 := (HRX.out wr hbr).2
        by_cases hql : q ≤ t.outs.length
        · have e3 : decide ((q : Int) ≤ (t.outs.length : Int)) = true := decide_eq_true (by omega)
          have rh : row? wr ⟨hbx, 0, none⟩ 32 = some H.arr := row_of_block hgb (by simp)
          have hne := ownsRow_ne ho hgb (fun cur e => by injection e with e1 e2 e3; revert e2; decide)
          have hbl := (cells_known hgb).2.2
          obtain ⟨W2, hW2⟩ : ∃ W2, W2 = wr.alloc (.cells (Outpoint.mk H (q : Nat)).arr 32) := ⟨_, rfl⟩
          have hb2 : Below wr.heap.size wr W2 := hW2 ▸ (Below.refl _ _).alloc (Nat.le_refl _) _
          obtain ⟨v', w3, hr3, ho3, hu3⟩ := own_pts (c := 1) (m := [Outpoint.mk H (q : Nat)]) (k := 1) (ownsRow_below ho hb2) rfl (by rw [show vsOf Outpoint.arr [Outpoint.mk H (q : Nat)] = (Outpoint.mk H (q : Nat)).arr.toList by simp [vsOf]]; exact World.news_of_block (hW2 ▸ heap_alloc_new wr (.cells (Outpoint.mk H (q : Nat)).arr 32))) (Nat.le_trans hbr.size hb2.size) (by omega)
          have hbl3 : Below w.heap.size w w3 := (hbr.trans (hb2.mono hbr.size)).trans (hu3.below (Nat.le_trans hbr.size hb2.size) (own_base ho))
          have hg3 : w3.heap[hbx]? = some (.cells H.arr 30 (0, 0)) := (hu3.block _ (Nat.lt_of_lt_of_le hbl hb2.size) (fun e => hne e)).trans ((hb2.block _ hbl).trans hgb)
          have hnx : L2 ++ (List.range q).map (fun j => (⟨H, (j : Nat)⟩ : Outpoint)) ++ [Outpoint.mk H (q : Nat)] = L2 ++ (List.range (q + 1)).map (fun j => (⟨H, (j : Nat)⟩ : Outpoint)) := by rw [List.range_succ, List.map_append, List.append_assoc]; rfl
          rw [hnx] at ho3
          rw [hW2] at hr3
          have HR := Lib.hid (hr3 75)
          have HX := Lib.hid (And.intro ho3 (And.intro hg3 hbl3))
          clear hr3 hnx hW2 hb2 ho3 hbl3 hg3 hu3 ho hgb hne
          go_wp2_with (at_builtin; refine wpList_run rfl _ _ _ _ rfl _ _ rfl rfl HR.out ?_)
          exact ⟨⟨q + 1, n4 + 1, by omega, by go_num, by omega, HX.out.1, HX.out.2.1, HX.out.2.2⟩, by simp [intOf]; omega⟩
        · have hqe : q = t.outs.length + 1 := by omega
          have e3 : decide ((q : Int) ≤ (t.outs.length : Int)) = false := decide_eq_false (by omega)
          have hnx : L2 ++ (List.range q).map (fun j => (⟨H, (j : Nat)⟩ : Outpoint)) = allPts (l.take k) ++ (B.take (j + 1)).flatMap txPts := by
            rw [HL2.out, HF2.out, hqe, HHH.out]
            simp [txPts]
          rw [hnx] at ho
          have HX := Lib.hid ho
          clear ho hnx hqe hgb
          go_wp2_with fail
          exact ⟨⟨j + 1, n4, by omega, by go_num, by omega, HX.out, hbr⟩, by simp [intOf]; omega⟩
end Go.Proofs.Ytaopiefbejajkaa
namespace Go.Proofs.Ytaopiefbejajkaa
open Go.RowKit
/-- Two indexes that do not meet, in memory behind W. -/
def Two (W w : World) (p1 : Nat) (L1 : List (List Tx)) (p2 : Nat) (L2 : List (List Tx)) : Prop :=
  ∃ r1 r2 Z1 Z2, IdxAt w Z1 p1 r1 (mapsOf L1) (L1.map (fun b => b.map idS)) ∧ IdxAt w Z2 p2 r2 (mapsOf L2) (L2.map (fun b => b.map idS)) ∧ (∀ k, Z1 k → ¬ Z2 k) ∧ (∀ k, Z1 k ∨ Z2 k → W.heap.size ≤ k) ∧ Below W.heap.size W w
theorem Two.swap {W w : World} {p1 p2 : Nat} {L1 L2 : List (List Tx)} (h : Two W w p1 L1 p2 L2) : Two W w p2 L2 p1 L1 := by
  obtain ⟨r1, r2, Z1, Z2, h1, h2, hd, hg, hb⟩ := h
  exact ⟨r2, r1, Z2, Z1, h2, h1, fun k h h' => hd k h' h, fun k h => hg k h.symm, hb⟩
theorem Two.keep {W w w' : World} {p1 p2 : Nat} {L1 L2 : List (List Tx)} (h : Two W w p1 L1 p2 L2) (hb : Below w.heap.size w w') : Two W w' p1 L1 p2 L2 := by
  obtain ⟨r1, r2, Z1, Z2, h1, h2, hd, hg, hb0⟩ := h
  exact ⟨r1, r2, Z1, Z2, h1.keep hb, h2.keep hb, hd, hg, hb0.trans (hb.mono hb0.size)⟩
theorem Two.below {W w : World} {p1 p2 : Nat} {L1 L2 : List (List Tx)} (h : Two W w p1 L1 p2 L2) : Below W.heap.size W w := by
  obtain ⟨_, _, _, _, _, _, _, _, hb⟩ := h; exact hb
theorem two_new {w w1 w2 : World} {p1 p2 : Nat} {r1 r2 : IdxR} (h1 : IdxAt w1 (fun k => w.heap.size ≤ k) p1 r1 Maps.zero []) (hb1 : Below w.heap.size w w1) (h2 : IdxAt w2 (fun k => w1.heap.size ≤ k) p2 r2 Maps.zero []) (hb2 : Below w1.heap.size w1 w2) : Two w w2 p1 [] p2 [] := by
  refine ⟨r1, r2, fun k => w.heap.size ≤ k ∧ k < w1.heap.size, fun k => w1.heap.size ≤ k, (h1.zoned (fun k hk h => ⟨h, hk⟩)).keep hb2, h2, fun k h h' => by omega, fun k h => ?_, hb1.trans (hb2.mono hb1.size)⟩
  have := hb1.size
  rcases h with h | h <;> omega
/-- A block comes to the first one. -/
theorem two_con {W w : World} {p1 p2 : Nat} {L1 L2 : List (List Tx)} (h : Two W w p1 L1 p2 L2) {s : Sl} {vs : List TxV} {b : List Tx} (hs : txsIn W (fun k => k < W.heap.size) s vs b) (hL : L1.length ≤ 1000000) (hl : b.length ≤ 1000000) :
    Calls Try.prog 31 #[.pointer (some ⟨p1, 0, none⟩), .slice s.a s.n s.c] w fun e w' => e = .returned (.int .i64 (conE L1 b)) ∧ Two W w' p1 (conL L1 b) p2 L2 := by
  obtain ⟨r1, r2, Z1, Z2, h1, h2, hd, hg, hb⟩ := h
  have hbs := hb.size
  have h1' := h1.zoned (Y := fun k => Z1 k ∧ k < w.heap.size) (fun k hk h => ⟨h, hk⟩)
  have h2' := h2.zoned (Y := fun k => Z2 k ∧ k < w.heap.size) (fun k hk h => ⟨h, hk⟩)
  have hs' : txsIn w (fun k => k < W.heap.size) s vs b := hs.upd (Upd.of_below hb (fun _ => False)) (fun _ _ _ h => h)
  refine (con_ix _ _ p1 r1 L1 s vs b w h1' hs' (fun k hk _ hf => by have := hg k (.inl (h1.zone k hf)); omega) hL hl).mono ?_
  rintro e w' ⟨r1', rfl, hI, hu⟩
  refine ⟨rfl, r1', r2, _, _, hI, h2'.kept hu (fun k hk _ hf => hd k (h1.zone k hf) hk.1), fun k hk h' => ?_, fun k hk => ?_, hb.trans (hu.below hbs (fun k hk => hg k (.inl (h1.zone k hk))))⟩
  · rcases hk with hk | hk
    · exact hd k hk.1 h'.1
    · omega
  · rcases hk with (hk | hk) | hk
    · exact hg k (.inl hk.1)
    · omega
    · exact hg k (.inr hk.1)
/-- The first one lets its last block go. -/
theorem two_dis {W w : World} {p1 p2 : Nat} {L1 L2 : List (List Tx)} (h : Two W w p1 L1 p2 L2) (hgd : goodL L1) (hL : L1.length ≤ 1000000) (hl : ∀ b ∈ L1, b.length ≤ 1000000) :
    Calls Try.prog 33 #[.pointer (some ⟨p1, 0, none⟩)] w fun e w' => e = .returned (.int .i64 (if L1 = [] then 5 else 0)) ∧ Two W w' p1 L1.dropLast p2 L2 := by
  obtain ⟨r1, r2, Z1, Z2, h1, h2, hd, hg, hb⟩ := h
  refine (dis_ix Z1 p1 r1 L1 w hgd h1 hL hl).mono ?_
  rintro e w' ⟨r1', rfl, hI, hu⟩
  exact ⟨rfl, r1', r2, Z1, Z2, hI, h2.kept hu (fun k hk _ hf => hd k (h1.zone k hf) hk), hd, hg, hb.trans (hu.below hb.size (fun k hk => hg k (.inl (h1.zone k hk))))⟩
end Go.Proofs.Ytaopiefbejajkaa
namespace Go.Proofs.Ytaopiefbejajkaa
open Go.RowKit
/-- Blocks in memory, as they are read, and as they are taken. -/
structure BlksIn (w : World) (s : Sl) (ss : List Sl) (l : List (List Tx)) : Prop where
  at_ : BlksAt w s ss l
  ins : ∀ k (h : k < ss.length) (h2 : k < l.length), ∃ vs, txsIn w (fun k => k < w.heap.size) ss[k] vs l[k]
def conAll (L : List (List Tx)) (l : List (List Tx)) : List (List Tx) := l.foldl conL L
theorem conAll_step (L : List (List Tx)) {l : List (List Tx)} {k : Nat} (hk : k < l.length) : conAll L (l.take (k + 1)) = conL (conAll L (l.take k)) l[k] := by
  unfold conAll
  rw [List.take_succ_eq_append_getElem hk, List.foldl_append]; rfl
theorem conL_len (L : List (List Tx)) (b : List Tx) : (conL L b).length ≤ L.length + 1 := by unfold conL; split <;> simp
theorem conAll_len (L : List (List Tx)) : ∀ l : List (List Tx), (conAll L l).length ≤ L.length + l.length := by
  intro l
  induction l generalizing L with
  | nil => exact Nat.le_refl _
  | cons b l ih =>
    have h1 := ih (conL L b)
    have h2 := conL_len L b
    show (conAll (conL L b) l).length ≤ _
    simp only [List.length_cons]; omega
theorem conAll_good : ∀ (l L : List (List Tx)), goodL L → goodL (conAll L l)
  | [], _, h => h
  | b :: l, L, h => conAll_good l _ (h.con b)
theorem conL_mem (L : List (List Tx)) (b x : List Tx) (h : x ∈ conL L b) : x ∈ L ∨ x = b := by
  unfold conL at h
  split at h
  · rcases List.mem_append.1 h with h | h
    · exact .inl h
    · exact .inr (List.mem_singleton.1 h)
  · exact .inl h
theorem conAll_mem : ∀ (m L : List (List Tx)) (x : List Tx), x ∈ conAll L m → x ∈ L ∨ x ∈ m
  | [], _, _, h => .inl h
  | b :: m, L, x, h => by
    rcases conAll_mem m (conL L b) x h with h | h
    · rcases conL_mem L b x h with h | h
      · exact .inl h
      · exact .inr (by rw [h]; exact List.mem_cons_self)
    · exact .inr (List.mem_cons_of_mem _ h)
theorem conAll_pre : ∀ (m L : List (List Tx)), (conAll L m).take L.length = L ∧ L.length ≤ (conAll L m).length
  | [], L => ⟨List.take_length, Nat.le_refl _⟩
  | b :: m, L => by
    obtain ⟨h1, h2⟩ := conAll_pre m (conL L b)
    have h3 : (conL L b).take L.length = L ∧ L.length ≤ (conL L b).length := by
      unfold conL
      split
      · exact ⟨by simp, by simp⟩
      · exact ⟨List.take_length, Nat.le_refl _⟩
    refine ⟨?_, Nat.le_trans h3.2 h2⟩
    show (conAll (conL L b) m).take L.length = L
    rw [show L.length = min L.length (conL L b).length by omega, ← List.take_take, h1]
    exact h3.1
theorem two_height {W w : World} {p1 p2 : Nat} {L1 L2 : List (List Tx)} (h : Two W w p1 L1 p2 L2) :
    Calls Try.prog 32 #[.pointer (some ⟨p1, 0, none⟩)] w fun e w' => e = .returned (.int .i64 (L1.length : Nat)) ∧ w = w' := by
  obtain ⟨r1, r2, Z1, Z2, h1, _⟩ := h
  have := height_ix Z1 p1 r1 _ _ w h1
  rwa [List.length_map] at this
set_option maxRecDepth 100000 in
set_option maxHeartbeats 1000000 in
theorem back_walk (s1 s2 : Sl) (ss1 ss2 : List Sl) (l m : List (List Tx)) (w : World) (h1 : BlksIn w s1 ss1 l) (h2 : BlksIn w s2 ss2 m) (f1 : fewS l = true) (f2 : fewS m = true) (hsl : smallL l) (hsm : smallL m) (hpw : ∀ q ∈ allPts l ++ allPts m, i64 q.n) :
    Calls Try.prog 6 #[.slice s1.a s1.n s1.c, .slice s2.a s2.n s2.c] w fun e w' => e = .returned (.bool true) ∧ Below w.heap.size w w' := by
  have hw1 := few_bk s1 ss1 l w h1.at_ (by have := hsl.1; omega)
  rw [f1] at hw1
  have hw2 : ∀ X, Below w.heap.size w X → Calls Try.prog 28 #[.slice s2.a s2.n s2.c] X fun e w' => e = .returned (.bool true) ∧ Below X.heap.size X w' := fun X hX => by
    have := few_bk s2 ss2 m X (h2.at_.below hX) (by have := hsm.1; omega)
    rwa [f2] at this
  obtain ⟨a1, n1, c1⟩ := s1
  obtain ⟨a2, n2, c2⟩ := s2
  have hn1 : n1 = l.length := by have := h1.at_.sl.1; rw [h1.at_.len] at this; exact this
  have hn2 : n2 = m.length := by have := h2.at_.sl.1; rw [h2.at_.len] at this; exact this
  subst hn1 hn2
  have hl20 := hsl.1
  have hm20 := hsm.1
  have HI1 := Lib.hid h1
  have HI2 := Lib.hid h2
  have HSL := Lib.hid hsl
  have HSM := Lib.hid hsm
  have HW2 := Lib.hid hw2
  have HPW := Lib.hid hpw
  clear hpw
  clear h1 h2 f1 f2 hsl hsm hw2
  go_enter Try.func6, Try.ntmps6
  go_wp2_with fail
  refine hw1.mono ?_
  rintro e w1 ⟨rfl, hb1⟩
  clear hw1
  have hw2 := HW2.out w1 hb1
  go_wp2_with fail
  refine hw2.mono ?_
  rintro e w2 ⟨rfl, hb2⟩
  clear hw2
  have hn1 := new_ix w2
  have hb02 : Below w.heap.size w w2 := hb1.trans (hb2.mono hb1.size)
  go_wp2_with fail
  refine hn1.mono ?_
  rintro e w3 ⟨p1, r1, rfl, hI1, hb3⟩
  have hn2 := new_ix w3
  clear hn1
  go_wp2_with fail
  refine hn2.mono ?_
  rintro e w4 ⟨p2, r2, rfl, hI2, hb4⟩
  clear hn2
  have htwo := two_new hI1 hb3 hI2 hb4
  have HT0 := Lib.hid htwo
  have H02 := Lib.hid hb02
  clear hI1 hI2 hb3 hb4 htwo hb02 hb1 hb2
  go_wp2_with fail
  go_loopw [7] (fun i wr => ∃ k : Nat, k ≤ l.length ∧ i = .int .i64 k ∧ Hid (Two w2 wr p1 (conAll [] (l.take k)) p2 (conAll [] (l.take k)))) (fun i _ => l.length - (intOf i).toNat)
  case atStart => exact ⟨0, Nat.zero_le _, rfl, HT0.out⟩
  case round =>
    clear HT0
    obtain ⟨k, hk, rfl, ht⟩ := hrel
    by_cases hlt : k < l.length
    case neg =>
      obtain rfl : k = l.length := by omega
      have e1 : decide ((l.length : Int) < (l.length : Int)) = false := decide_eq_false (by omega)
      rw [List.take_length] at ht
      have hLn : (conAll [] l).length ≤ 20 := by have := conAll_len [] l; simp only [List.length_nil] at this; omega
      have hmem : ∀ b ∈ conAll [] l, b.length ≤ 12 := fun b hb => by
        rcases conAll_mem l [] b hb with h | h
        · cases h
        · exact (HSL.out.2 b h).1
      have HGL := Lib.hid (conAll_good l [] goodL_nil)
      obtain ⟨L, hL⟩ : ∃ L, L = conAll [] l := ⟨_, rfl⟩
      rw [← hL] at ht hLn hmem HGL
      have HMEM := Lib.hid hmem
      clear hlt hk hL hmem
      go_wp2_with fail
      go_loopw [8, 9] (fun n i wr => ∃ k q : Nat, k ≤ m.length ∧ q ≤ k ∧ i = .int .i64 k ∧ n = .int .i64 q ∧ Hid (Two w2 wr p1 (conAll L (m.take k)) p2 L ∧ (conAll L (m.take k)).length = L.length + q)) (fun _ i _ => m.length - (intOf i).toNat)
      case atStart => exact ⟨0, 0, Nat.zero_le _, Nat.le_refl _, rfl, rfl, ht.out, rfl⟩
      case round =>
        clear ht
        obtain ⟨k, q, hk, hqk, rfl, rfl, ht⟩ := hrel
        by_cases hlt : k < m.length
        case neg =>
          obtain rfl : k = m.length := by omega
          have e2 : decide ((m.length : Int) < (m.length : Int)) = false := decide_eq_false (by omega)
          rw [List.take_length] at ht
          have hpre := conAll_pre m L
          have hMn : (conAll L m).length ≤ 40 := by rw [ht.out.2]; omega
          have hGM := conAll_good m L HGL.out
          have hmemM : ∀ b ∈ conAll L m, b.length ≤ 1000000 := fun b hb => by
            rcases conAll_mem m L b hb with h | h
            · have := HMEM.out b h; omega
            · have := (HSM.out.2 b h).1; omega
          obtain ⟨M, hM⟩ : ∃ M, M = conAll L m := ⟨_, rfl⟩
          rw [← hM] at ht hpre hMn hGM hmemM
          have HMM := Lib.hid (And.intro hpre.1 (And.intro hGM (And.intro hmemM (And.intro hMn ht.out.2))))
          have kx := two_height ht.out.1
          have ky := two_height ht.out.1.swap
          rw [ht.out.2] at kx
          have hq40 : q ≤ 40 := by have := ht.out.2; omega
          have HT := Lib.hid ht.out.1
          clear hlt hk hM hpre hMn hGM hmemM ht
          go_wp2_with fail
          refine kx.mono ?_
          rintro e w9 ⟨rfl, rfl⟩
          go_wp2_with fail
          refine ky.mono ?_
          rintro e w9 ⟨rfl, rfl⟩
          clear kx ky
          push_cast
          go_wp2_with fail
          go_loopw [8] (fun n wr => ∃ p : Nat, p ≤ q ∧ n = .int .i64 p ∧ Hid (Two w2 wr p1 (M.take (L.length + p)) p2 L)) (fun n _ => (intOf n).toNat)
          case atStart => exact ⟨q, Nat.le_refl _, rfl, by unfold Hid; rw [List.take_of_length_le (by rw [HMM.out.2.2.2.2]; exact Nat.le_refl _)]; exact HT.out⟩
          case round =>
            clear HT
            obtain ⟨p, hp, rfl, ht⟩ := hrel
            by_cases hp0 : 0 < p
            · have e3 : decide ((0 : Int) < (p : Int)) = true := decide_eq_true (by omega)
              have hne : M.take (L.length + p) ≠ [] := fun h => by
                have := congrArg List.length h
                rw [List.length_take, HMM.out.2.2.2.2] at this
                simp at this; omega
              have kd := two_dis ht.out (HMM.out.2.1.take _) (by rw [List.length_take]; have := HMM.out.2.2.2.1; omega) (fun b hb => HMM.out.2.2.1 b (List.mem_of_mem_take hb))
              rw [if_neg hne, List.dropLast_eq_take, List.take_take, List.length_take, show min (min (L.length + p) M.length - 1) (L.length + p) = L.length + (p - 1) by rw [HMM.out.2.2.2.2]; omega] at kd
              clear hne ht
              go_wp2_with fail
              refine kd.mono ?_
              rintro e w9 ⟨rfl, ht9⟩
              have HT9 := Lib.hid ht9
              clear kd ht9
              go_wp2_with fail
              exact ⟨⟨p - 1, by omega, by go_num, HT9.out⟩, by simp [intOf]; omega⟩
            · obtain rfl : p = 0 := by omega
              have ht2 : Hid (Two w2 wr p1 L p2 L) := by have := ht.out; rwa [Nat.add_zero, HMM.out.1] at this
              clear ht hp0 hp
              have hbr := (H02.out).trans (ht2.out.below.mono H02.out.size)
              have kp := points_bk _ ss1 l wr (HI1.out.at_.below hbr) HSL.out
              go_wp2_with fail
              refine kp.mono ?_
              rintro e w9 ⟨s9, rfl, ho9, hl9, hb9⟩
              have kp2 := points_bk _ ss2 m w9 (HI2.out.at_.below (hbr.trans (hb9.mono hbr.size))) HSM.out
              clear kp
              go_wp2_with fail
              refine kp2.mono ?_
              rintro e w10 ⟨s10, rfl, ho10, hl10, hb10⟩
              obtain ⟨v', w11, hr11, ho11, hu11⟩ := own_both (ownsRow_below ho9 hb10) ho10 (Nat.le_trans hb9.size hb10.size) (by omega)
              have hb11 : Below wr.heap.size wr w11 := (hb9.trans (hb10.mono hb9.size)).trans (hu11.below (Nat.le_trans hb9.size hb10.size) (own_base ho9))
              have HT11 := Lib.hid (ht2.out.keep hb11)
              have HO11 := Lib.hid ho11
              have HR := Lib.hid (hr11 75)
              clear kp2 hr11 ho11 ho9 ho10 hu11 hb11 hb10 hb9 ht2
              go_wp2_with (at_builtin; refine wpList_run rfl _ _ _ _ rfl _ _ rfl rfl HR.out ?_)
              obtain ⟨P, hP⟩ : ∃ P, P = allPts l ++ allPts m := ⟨_, rfl⟩
              rw [← hP] at HO11 HPW
              obtain ⟨pa, pc, hv', hpc, _⟩ := ownsRow_slice HO11.out
              obtain ⟨n, hn⟩ : ∃ n, n = (allPts l).length + (allPts m).length := ⟨_, rfl⟩
              rw [← hn] at HO11 hv' hpc
              subst hv'
              have hnP : n = P.length := by rw [hn, hP, List.length_append]
              have hsP := (slIn_own (α := Outpoint) (n := 33) (enc := Outpoint.arr) (l := P) (s := ⟨pa, n, pc⟩) (by decide) (fun x => by simp) (by rw [← hnP]; exact HO11.out) hnP).isSl
              have hn6 : n ≤ 12000 := by omega
              obtain ⟨r1, r2, Z1, Z2, hI1, hI2, _, _, hbb⟩ := HT11.out
              obtain ⟨Mp, hMp⟩ : ∃ Mp, Mp = mapsOf L := ⟨_, rfl⟩
              rw [← hMp] at hI1 hI2
              have hX1 : ∀ X, Below w11.heap.size w11 X → IdxAt X Z1 p1 r1 Mp (L.map (fun b => b.map idS)) := fun X hX => hI1.keep hX
              have hX2 : ∀ X, Below w11.heap.size w11 X → IdxAt X Z2 p2 r2 Mp (L.map (fun b => b.map idS)) := fun X hX => hI2.keep hX
              have HX1 := Lib.hid hX1
              have HX2 := Lib.hid hX2
              have HSP := Lib.hid (And.intro hsP hnP)
              clear HO11 HR hP hn hnP hsP hI1 hI2 hMp hX1 hX2 hl9 hl10
              go_wp2_with fail
              go_loopw [11] (fun i wx => ∃ j : Nat, j ≤ n ∧ i = .int .i64 j ∧ Below w11.heap.size w11 wx) (fun i _ => n - (intOf i).toNat)
              case atStart => exact ⟨0, Nat.zero_le _, rfl, Below.refl _ _⟩
              case round =>
                obtain ⟨j, hj, rfl, hbx⟩ := hrel
                by_cases hjn : j < n
                · have hjP : j < P.length := by rw [← HSP.out.2]; exact hjn
                  obtain ⟨gb, off, e, hgb, hrow⟩ := HSP.out.1.2.2.at hjP
                  simp only at e
                  subst e
                  have hqn := HPW.out _ (List.getElem_mem hjP)
                  obtain ⟨q, hq⟩ : ∃ q, q = P[j] := ⟨_, rfl⟩
                  rw [← hq] at hrow hqn
                  have hr : ∀ X, Below w11.heap.size w11 X → row? X ⟨gb, off + j * 33, none⟩ 33 = some q.arr := fun X hX => (row?_below hX (a := ⟨gb, off + j * 33, none⟩) hgb 33).trans hrow
                  have HRW := Lib.hid hr
                  have r0 := hr wr hbx
                  have e1 : decide ((j : Int) < (n : Int)) = true := decide_eq_true (by omega)
                  have j0 : (0 : Int) ≤ (j : Int) := by omega
                  have j1 : (j : Int) < (n : Int) := by omega
                  have k1 := spender_ix Z1 p1 r1 Mp _ q hqn wr (HX1.out wr hbx)
                  obtain ⟨z, hz⟩ : ∃ z, z = (spM Mp q).1 := ⟨_, rfl⟩
                  obtain ⟨a, ha⟩ : ∃ a, a = (spM Mp q).2.1 := ⟨_, rfl⟩
                  obtain ⟨b, hb⟩ : ∃ b, b = (spM Mp q).2.2 := ⟨_, rfl⟩
                  rw [← hz, ← ha, ← hb] at k1
                  have HZ := Lib.hid (And.intro hz (And.intro ha hb))
                  have HQN := Lib.hid hqn
                  clear hr hq hrow hz ha hb hqn
                  go_wp2_with fail
                  refine k1.mono ?_
                  rintro e w12 ⟨rfl, hb12⟩
                  go_upto_region 28 with fail
                  obtain ⟨V1, hV1⟩ : ∃ V1, V1 = w12.alloc (.cells z.arr 30) := ⟨_, rfl⟩
                  have hc1 : Below w12.heap.size w12 V1 := hV1 ▸ (Below.refl _ _).alloc (Nat.le_refl _) _
                  have hbV1 : Below w11.heap.size w11 V1 := hbx.trans ((hb12.trans (hc1.mono hb12.size)).mono hbx.size)
                  have v1 : V1.heap[w12.heap.size]? = some (.cells z.arr 30 (0, 0)) := hV1 ▸ heap_alloc_new w12 _
                  rw [← hV1]
                  clear hV1 hb12 hc1 k1
                  have k2 := spender_ix Z2 p2 r2 Mp _ q HQN.out V1 (HX2.out V1 hbV1)
                  rw [← HZ.out.1, ← HZ.out.2.1, ← HZ.out.2.2] at k2
                  have r1 := HRW.out V1 hbV1
                  go_wp2_with fail
                  refine k2.mono ?_
                  rintro e w13 ⟨rfl, hb13⟩
                  go_upto_region 29 with fail
                  obtain ⟨V2, hV2⟩ : ∃ V2, V2 = w13.alloc (.cells z.arr 30) := ⟨_, rfl⟩
                  have hc2 : Below V1.heap.size V1 V2 := hb13.trans ((hV2 ▸ (Below.refl w13.heap.size w13).alloc (Nat.le_refl _) _ : Below w13.heap.size w13 V2).mono hb13.size)
                  have hbV2 : Below w11.heap.size w11 V2 := hbV1.trans (hc2.mono hbV1.size)
                  have v2 : V2.heap[w13.heap.size]? = some (.cells z.arr 30 (0, 0)) := hV2 ▸ heap_alloc_new w13 _
                  rw [← hV2]
                  clear hV2 hb13 k2 r1
                  have k3 := out_ix Z1 p1 r1 Mp _ q HQN.out V2 (HX1.out V2 hbV2)
                  obtain ⟨o, ho⟩ : ∃ o, o = (outM Mp q).1 := ⟨_, rfl⟩
                  obtain ⟨at_, hat⟩ : ∃ at_, at_ = (outM Mp q).2.1 := ⟨_, rfl⟩
                  obtain ⟨ok, hok⟩ : ∃ ok, ok = (outM Mp q).2.2 := ⟨_, rfl⟩
                  rw [← ho, ← hat, ← hok] at k3
                  have HO := Lib.hid (And.intro ho (And.intro hat hok))
                  have r2' := HRW.out V2 hbV2
                  clear ho hat hok
                  go_wp2_with fail
                  refine k3.mono ?_
                  rintro e w14 ⟨rfl, hb14⟩
                  go_upto_region 30 with fail
                  obtain ⟨V3, hV3⟩ : ∃ V3, V3 = w14.alloc (.cells o.arr 55) := ⟨_, rfl⟩
                  have hc3 : Below V2.heap.size V2 V3 := hb14.trans ((hV3 ▸ (Below.refl w14.heap.size w14).alloc (Nat.le_refl _) _ : Below w14.heap.size w14 V3).mono hb14.size)
                  have hbV3 : Below w11.heap.size w11 V3 := hbV2.trans (hc3.mono hbV2.size)
                  have v3 : V3.heap[w14.heap.size]? = some (.cells o.arr 55 (0, 0)) := hV3 ▸ heap_alloc_new w14 _
                  rw [← hV3]
                  clear hV3 hb14 k3 r2'
                  have k4 := out_ix Z2 p2 r2 Mp _ q HQN.out V3 (HX2.out V3 hbV3)
                  rw [← HO.out.1, ← HO.out.2.1, ← HO.out.2.2] at k4
                  have r3' := HRW.out V3 hbV3
                  go_wp2_with fail
                  refine k4.mono ?_
                  rintro e w15 ⟨rfl, hb15⟩
                  go_upto_region 31 with fail
                  obtain ⟨V4, hV4⟩ : ∃ V4, V4 = w15.alloc (.cells o.arr 55) := ⟨_, rfl⟩
                  have hc4 : Below V3.heap.size V3 V4 := hb15.trans ((hV4 ▸ (Below.refl w15.heap.size w15).alloc (Nat.le_refl _) _ : Below w15.heap.size w15 V4).mono hb15.size)
                  have hbV4 : Below w11.heap.size w11 V4 := hbV3.trans (hc4.mono hbV3.size)
                  have v4 : V4.heap[w15.heap.size]? = some (.cells o.arr 55 (0, 0)) := hV4 ▸ heap_alloc_new w15 _
                  rw [← hV4]
                  clear hV4 hb15 k4 r3'
                  have v3' := (hc4.block _ (cells_known v3).2.2).trans v3
                  have hc24 := hc3.trans (hc4.mono hc3.size)
                  have v2' := (hc24.block _ (cells_known v2).2.2).trans v2
                  have v1' := ((hc2.trans (hc24.mono hc2.size)).block _ (cells_known v1).2.2).trans v1
                  have q1 : row? V4 ⟨w12.heap.size, 0, none⟩ 32 = some z.arr := row_of_block v1' (by simp)
                  have q2 : row? V4 ⟨w13.heap.size, 0, none⟩ 32 = some z.arr := row_of_block v2' (by simp)
                  have q3 : row? V4 ⟨w14.heap.size, 0, none⟩ 39 = some o.arr := row_of_block v3' (by simp)
                  have q4 : row? V4 ⟨w15.heap.size, 0, none⟩ 39 = some o.arr := row_of_block v4 (by simp)
                  have q5 := HRW.out V4 hbV4
                  have k5 := unspent_ix Z1 p1 r1 Mp _ q HQN.out V4 (HX1.out V4 hbV4)
                  rw [show unspM Mp q = (ok && !b) by unfold unspM; rw [← HO.out.2.2, ← HZ.out.2.2]] at k5
                  have HV4 := Lib.hid hbV4
                  clear v1 v2 v3 v4 v1' v2' v3' hc24 hc2 hc3 hc4 hbV1 hbV2 hbV3 hbV4 hbx
                  cases ok <;> cases b <;> simp only [Bool.not_true, Bool.not_false, Bool.and_true, Bool.and_false, Bool.true_and, Bool.false_and] at k5
                  all_goals
                    go_wp2_with (go_at_call 37; refine k5.mono ?_; rintro e w16 ⟨rfl, hb16⟩)
                    exact ⟨⟨j + 1, by omega, by go_num, HV4.out.trans (hb16.mono HV4.out.size)⟩, by simp [intOf]; omega⟩
                · obtain rfl : j = n := by omega
                  have e1 : decide ((j : Int) < (j : Int)) = false := decide_eq_false (by omega)
                  have t1 : Two w2 wr p1 L p2 L := HT11.out.keep hbx
                  have ky := two_height t1
                  have kz := two_height t1.swap
                  have haw := awake11 wr
                  have hbl : Below w.heap.size w wr := H02.out.trans (t1.below.mono H02.out.size)
                  clear t1 hjn hj
                  go_wp2_with (first | (go_at_call 32; first | (with_reducible refine ky.mono ?_; rintro e w9 ⟨rfl, rfl⟩) | (with_reducible refine kz.mono ?_; rintro e w9 ⟨rfl, rfl⟩)) | (go_at_call 29; refine haw.mono ?_; rintro e w15 ⟨rfl, hb15⟩))
                  go_ret
                  exact ⟨rfl, hbl.trans (hb15.mono hbl.size)⟩
        have hks : k < ss2.length := by rw [HI2.out.at_.len]; exact hlt
        have hbr := (H02.out).trans (ht.out.1.below.mono H02.out.size)
        obtain ⟨b, off, e, hb, hcell⟩ := (HI2.out.at_.below hbr).cell hks
        simp only at e
        subst e
        obtain ⟨vs, hin⟩ := HI2.out.ins k hks hlt
        have hin2 : txsIn w2 (fun k => k < w2.heap.size) ss2[k] vs m[k] := (hin.upd (Upd.of_below H02.out (fun _ => False)) (fun _ _ _ h => h)).zone (fun q hq _ => hq)
        have hb12 := HSM.out.2 _ (List.getElem_mem hlt)
        have hst := conAll_step L hlt
        have hlen : (conAll L (m.take k)).length ≤ 40 := by rw [ht.out.2]; omega
        obtain ⟨x, hx⟩ : ∃ x, x = ss2[k] := ⟨_, rfl⟩
        obtain ⟨N, hN⟩ : ∃ N, N = conAll L (m.take k) := ⟨_, rfl⟩
        obtain ⟨bb, hbb⟩ : ∃ bb, bb = m[k] := ⟨_, rfl⟩
        rw [← hx] at hcell hin2
        rw [← hN] at ht hlen hst
        rw [← hbb] at hin2 hst hb12
        have kx := two_con ht.out.1 hin2 (by omega) (by omega)
        have j0 : (0 : Int) ≤ (k : Int) := by omega
        have j1 : (k : Int) < (m.length : Int) := by omega
        have e2 : decide ((k : Int) < (m.length : Int)) = true := decide_eq_true (by omega)
        obtain ⟨E, hE⟩ : ∃ E, E = conE N bb := ⟨_, rfl⟩
        rw [← hE] at kx
        have HST := Lib.hid hst
        have hlq : (if E = 0 then q + 1 else q) + L.length = (conL N bb).length := by
          unfold conL
          rw [← hE]
          have := ht.out.2
          by_cases h : E = 0
          · rw [if_pos h, if_pos h, List.length_append, List.length_singleton]; omega
          · rw [if_neg h, if_neg h]; omega
        clear hin2 hin hx hN hbb hst hE ht hbr hlen hb12
        by_cases hE0 : E = 0
        · rw [if_pos hE0] at hlq
          have HLQ := Lib.hid hlq
          subst hE0
          clear hlq
          go_wp2_with fail
          refine kx.mono ?_
          rintro e w9 ⟨rfl, ht9⟩
          have HT9 := Lib.hid ht9
          clear kx ht9
          go_wp2_with fail
          exact ⟨⟨k + 1, q + 1, by omega, by omega, by go_num, by go_num, by rw [HST.out]; exact HT9.out, by rw [HST.out, ← HLQ.out]; omega⟩, by simp [intOf]; omega⟩
        · rw [if_neg hE0] at hlq
          have HLQ := Lib.hid hlq
          have e3 : (E == 0) = false := by rw [beq_eq_false_iff_ne]; exact hE0
          clear hlq hE0
          go_wp2_with fail
          refine kx.mono ?_
          rintro e w9 ⟨rfl, ht9⟩
          have HT9 := Lib.hid ht9
          clear kx ht9
          go_wp2_with fail
          exact ⟨⟨k + 1, q, by omega, by omega, by go_num, rfl, by rw [HST.out]; exact HT9.out, by rw [HST.out, ← HLQ.out]; omega⟩, by simp [intOf]; omega⟩
    have hks : k < ss1.length := by rw [HI1.out.at_.len]; exact hlt
    have hbr := (H02.out).trans (ht.out.below.mono H02.out.size)
    obtain ⟨b, off, e, hb, hcell⟩ := HI1.out.at_.cell hks
    simp only at e
    subst e
    obtain ⟨vs, hin⟩ := HI1.out.ins k hks hlt
    have hin2 : txsIn w2 (fun k => k < w2.heap.size) ss1[k] vs l[k] := (hin.upd (Upd.of_below H02.out (fun _ => False)) (fun _ _ _ h => h)).zone (fun q hq _ => hq)
    have hb12 := HSL.out.2 _ (List.getElem_mem hlt)
    have hlen : (conAll [] (l.take k)).length ≤ 20 := by have := conAll_len [] (l.take k); simp only [List.length_take, List.length_nil] at this; omega
    have hst := conAll_step [] hlt
    obtain ⟨x, hx⟩ : ∃ x, x = ss1[k] := ⟨_, rfl⟩
    obtain ⟨L, hL⟩ : ∃ L, L = conAll [] (l.take k) := ⟨_, rfl⟩
    obtain ⟨bb, hbb⟩ : ∃ bb, bb = l[k] := ⟨_, rfl⟩
    rw [← hx] at hcell hin2
    rw [← hL] at ht hlen hst
    rw [← hbb] at hin2 hst hb12
    have ht0 : Two w2 wr.drew p1 L p2 L := ht.out.keep (Below.refl _ _).drew
    have kx := two_con ht0 hin2 (by omega) (by omega)
    have ky : ∀ X, Two w2 X p1 (conL L bb) p2 L → Calls Try.prog 31 #[.pointer (some ⟨p2, 0, none⟩), .slice x.a x.n x.c] X fun e w' => e = .returned (.int .i64 (conE L bb)) ∧ Two w2 w' p1 (conL L bb) p2 (conL L bb) := fun X hX => (two_con hX.swap hin2 (by omega) (by omega)).mono (fun e w' h => ⟨h.1, h.2.swap⟩)
    have hcX : ∀ X, Below w2.heap.size w2 X → X.cell? ⟨b, off + k, none⟩ = some (.slice x.a x.n x.c) := fun X hX => ((H02.out.trans (hX.mono H02.out.size)).cell (p := ⟨b, off + k, none⟩) hb).trans hcell
    have HCX := Lib.hid hcX
    have HKY := Lib.hid ky
    have hS0 := hcX wr.drew ht0.below
    have j0 : (0 : Int) ≤ (k : Int) := by omega
    have j1 : (k : Int) < (l.length : Int) := by omega
    have e1 : decide ((k : Int) < (l.length : Int)) = true := decide_eq_true (by omega)
    obtain ⟨E, hE⟩ : ∃ E, E = conE L bb := ⟨_, rfl⟩
    rw [← hE] at kx HKY
    have HST := Lib.hid hst
    clear hcX ky hin2 hin hcell hx hL hbb ht0 hst hE ht hbr hlen hb12
    go_upto_region 9 with fail
    go_cut [59] (fun q wx => q = .bool false ∧ Hid (Two w2 wx p1 (conL L bb) p2 (conL L bb)))
    case first =>
      go_region_held3 (fun X : World => X.cell? ⟨b, off + k, none⟩ = some (.slice x.a x.n x.c)) (first | exact hS0 | exact hS1 | exact hS2) ((go_at_call 31; first | (with_reducible refine kx.mono ?_; rintro e wA ⟨rfl, htA⟩; have hS1 := HCX.out wA htA.below; have qy := HKY.out wA htA) | (with_reducible refine qy.mono ?_; rintro e wB ⟨rfl, htB⟩; have hS2 := HCX.out wB htB.below)))
      all_goals
        go_wp2_with fail
        go_meet
        exact ⟨by simp, htB⟩
    case rest =>
      obtain ⟨rfl, hx⟩ := hcut
      go_wp2_with fail
      exact ⟨⟨k + 1, by omega, by go_num, by rw [HST.out]; exact hx.out⟩, by simp [intOf]; omega⟩
end Go.Proofs.Ytaopiefbejajkaa
namespace Go.Proofs.Ytaopiefbejajkaa
open Go.RowKit
theorem few_small {l : List (List Tx)} (h : fewS l = true) : smallL l := by
  unfold fewS at h
  simp only [Bool.and_eq_true, decide_eq_true_eq, List.all_eq_true] at h
  obtain ⟨h1, h2, _⟩ := h
  rw [List.take_of_length_le h2] at h1
  refine ⟨h2, fun b hb => ?_⟩
  have := h1 b hb
  unfold allLightS at this
  simp only [Bool.and_eq_true, decide_eq_true_eq, List.all_eq_true] at this
  refine ⟨by omega, fun t ht => ?_⟩
  have := this.2 t ht
  unfold lightS at this
  simp only [Bool.and_eq_true, decide_eq_true_eq] at this
  omega
theorem blks_in {w : World} {s : Sl} {l : List (List Tx)} (h : txLLs w s l) : ∃ ss, BlksIn w s ss l := by
  obtain ⟨ss, h1, h2, h3⟩ := h
  refine ⟨ss, ⟨h1.isSl, h2, fun k hk hk2 => ?_⟩, fun k hk hk2 => ?_⟩
  · obtain ⟨vs, h⟩ := h3 k hk hk2
    exact ⟨vs, h.txsAt⟩
  · obtain ⟨vs, h⟩ := h3 k hk hk2
    exact ⟨vs, h.zone (fun q hq _ => hq)⟩
theorem pts_wf {l : List (List Tx)} (hs : smallL l) (h : ∀ x ∈ l, ∀ y ∈ x, y.wf) : ∀ q ∈ allPts l, i64 q.n := by
  intro q hq
  obtain ⟨b, hb, hq⟩ := List.mem_flatMap.1 hq
  obtain ⟨t, ht, hq⟩ := List.mem_flatMap.1 hq
  unfold txPts ptsS at hq
  rcases List.mem_append.1 hq with hq | hq
  · obtain ⟨i, hi, rfl⟩ := List.mem_map.1 hq
    exact ((h b hb t ht).1 i hi).1
  · obtain ⟨j, hj, rfl⟩ := List.mem_map.1 hq
    have h1 := ((hs.2 b hb).2 t ht).2
    have h2 := List.mem_range.1 hj
    show i64 ((j : Nat) : Int)
    unfold i64; omega
set_option maxRecDepth 100000 in
set_option maxHeartbeats 1000000 in
theorem back_any (s1 s2 : Sl) (l m : List (List Tx)) (w : World) (h1 : txLLs w s1 l) (h2 : txLLs w s2 m) (g1 : ∀ x ∈ l, ∀ y ∈ x, y.wf) (g2 : ∀ x ∈ m, ∀ y ∈ x, y.wf) :
    Calls Try.prog 6 #[.slice s1.a s1.n s1.c, .slice s2.a s2.n s2.c] w fun e w' => e = .returned (.bool true) ∧ Below w.heap.size w w' := by
  have z1 : l.length ≤ 9223372036854775807 := by
    obtain ⟨ss, h, hl, _⟩ := h1
    have := h.1; have := h.2.1; have := h.2.2.1; unfold maxLen at this; omega
  have z2 : m.length ≤ 9223372036854775807 := by
    obtain ⟨ss, h, hl, _⟩ := h2
    have := h.1; have := h.2.1; have := h.2.2.1; unfold maxLen at this; omega
  obtain ⟨ss1, b1⟩ := blks_in h1
  obtain ⟨ss2, b2⟩ := blks_in h2
  have hw1 := few_bk s1 ss1 l w b1.at_ z1
  have hw2 : ∀ X, Below w.heap.size w X → Calls Try.prog 28 #[.slice s2.a s2.n s2.c] X fun e w' => e = .returned (.bool (fewS m)) ∧ Below X.heap.size X w' := fun X hX => few_bk s2 ss2 m X (b2.at_.below hX) z2
  cases f1 : fewS l with
  | false =>
    rw [f1] at hw1
    clear z1 z2 hw2 f1 g1 g2 h1 h2 b1 b2
    go_enter Try.func6, Try.ntmps6
    go_wp2_with fail
    refine hw1.mono ?_
    rintro e w1 ⟨rfl, hb1⟩
    have haw := awake11 w1
    clear hw1
    go_wp2_with (go_at_call 29; refine haw.mono ?_; rintro e w15 ⟨rfl, hb15⟩)
    go_ret
    exact ⟨rfl, hb1.trans (hb15.mono hb1.size)⟩
  | true =>
    cases f2 : fewS m with
    | false =>
      rw [f1] at hw1
      rw [f2] at hw2
      clear z1 z2 f1 f2 g1 g2 h1 h2 b1 b2
      go_enter Try.func6, Try.ntmps6
      go_wp2_with fail
      refine hw1.mono ?_
      rintro e w1 ⟨rfl, hb1⟩
      have hw3 := hw2 w1 hb1
      clear hw1 hw2
      go_wp2_with fail
      refine hw3.mono ?_
      rintro e w2 ⟨rfl, hb2⟩
      have haw := awake11 w2
      clear hw3
      go_wp2_with (go_at_call 29; refine haw.mono ?_; rintro e w15 ⟨rfl, hb15⟩)
      go_ret
      exact ⟨rfl, hb1.trans ((hb2.trans (hb15.mono hb2.size)).mono hb1.size)⟩
    | true =>
      exact back_walk s1 s2 ss1 ss2 l m w b1 b2 f1 f2 (few_small f1) (few_small f2) (fun q hq => by
        rcases List.mem_append.1 hq with h | h
        · exact pts_wf (few_small f1) g1 q h
        · exact pts_wf (few_small f2) g2 q h)
end Go.Proofs.Ytaopiefbejajkaa
