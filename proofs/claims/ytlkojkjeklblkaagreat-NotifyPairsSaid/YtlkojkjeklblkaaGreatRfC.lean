/- The document's own checks: money, scripts, witnesses, inputs. The document's own check of scripts. The document's own check of transactions. -/
import Derived.Test.YtlkojkjeklblkaaGreatTxF
import Derived.Test.YtlkojkjeklblkaaGreatTxJ
import Derived.Deep.DeepCutAuto
import Derived.Deep.CutBlock
import Derived.Deep.RegionLaw
set_option linter.unusedSimpArgs false
set_option linter.unusedVariables false
namespace Go.Proofs.YtlkojkjeklblkaaGreat
open Go.RowKit
theorem money_ref (a : Int) (w : World) : Calls Tryz.prog 193 #[.int .i64 a] w fun e w' => e = .returned (.bool (money a)) ∧ w = w' := by
  go_enter Tryz.func193, Tryz.ntmps193
  go_wp2_with fail
  all_goals
    go_ret
    exact ⟨ret_bool (by first | (simp [money, *]; done) | (simp [money]; omega)), rfl⟩
theorem wadd_ref (a b : Int) (h : i64 a) (h2 : money a = true) (h3 : money b = true) : wrap64 (a + b) = a + b := by
  rw [money_iff] at h2 h3
  unfold wrap64; omega
set_option maxHeartbeats 1000000 in
theorem add_ref (a b : Int) (w : World) : Calls Tryz.prog 155 #[.int .i64 a, .int .i64 b] w fun e w' => e = .returned (.tuple #[.int .i64 (addS a b).1, .int .i64 (addS a b).2]) ∧ w = w' := by
  obtain ⟨ma, hma⟩ : ∃ ma, ma = money a := ⟨_, rfl⟩
  obtain ⟨mb, hmb⟩ : ∃ mb, mb = money b := ⟨_, rfl⟩
  have h1 := money_ref a w
  have h2 := money_ref b w
  rw [← hma] at h1
  rw [← hmb] at h2
  cases ma with
  | false =>
    have hf : Hid (addS a b = (0, 11)) := by unfold Hid addS; rw [← hma]; rfl
    clear hma hmb h2
    go_enter Tryz.func155, Tryz.ntmps155
    go_wp2_with (go_at_call 193; refine h1.mono ?_; rintro e w' ⟨rfl, rfl⟩)
    go_ret2
    exact ⟨by rw [hf.out]; rfl, rfl⟩
  | true =>
    cases mb with
    | false =>
      have hf : Hid (addS a b = (0, 11)) := by unfold Hid addS; rw [← hma, ← hmb]; rfl
      clear hma hmb
      go_enter Tryz.func155, Tryz.ntmps155
      go_wp2_with (first | (go_at_call 193; with_reducible refine h1.mono ?_; rintro e w' ⟨rfl, rfl⟩) | (go_at_call 193; with_reducible refine h2.mono ?_; rintro e w' ⟨rfl, rfl⟩))
      go_ret2
      exact ⟨by rw [hf.out]; rfl, rfl⟩
    | true =>
      have ha := money_iff.1 hma.symm
      have hb := money_iff.1 hmb.symm
      have hw : wrap64 (a + b) = a + b := by unfold wrap64; omega
      obtain ⟨mc, hmc⟩ : ∃ mc, mc = money (a + b) := ⟨_, rfl⟩
      have h3 := money_ref (a + b) w
      rw [← hmc] at h3
      have hf : Hid (addS a b = if mc then (a + b, 0) else (0, 11)) := by unfold Hid addS; rw [← hma, ← hmb, ← hmc]; cases mc <;> rfl
      clear hma hmb hmc ha hb
      cases mc with
      | false =>
        go_enter Tryz.func155, Tryz.ntmps155
        go_wp2_with (first | (go_at_call 193; with_reducible refine h1.mono ?_; rintro e w' ⟨rfl, rfl⟩) | (go_at_call 193; with_reducible refine h2.mono ?_; rintro e w' ⟨rfl, rfl⟩) | (go_at_call 193; with_reducible refine h3.mono ?_; rintro e w' ⟨rfl, rfl⟩))
        go_ret2
        exact ⟨by rw [hf.out]; rfl, rfl⟩
      | true =>
        go_enter Tryz.func155, Tryz.ntmps155
        go_wp2_with (first | (go_at_call 193; with_reducible refine h1.mono ?_; rintro e w' ⟨rfl, rfl⟩) | (go_at_call 193; with_reducible refine h2.mono ?_; rintro e w' ⟨rfl, rfl⟩) | (go_at_call 193; with_reducible refine h3.mono ?_; rintro e w' ⟨rfl, rfl⟩))
        go_ret2
        exact ⟨by rw [hf.out]; show Ending.returned (.tuple #[.int .i64 (wrap64 (a + b)), .int .i64 0]) = _; rw [hw]; rfl, rfl⟩
theorem addS_bad {s a : Int} (h : (addS s a).2 ≠ 0) : (addS s a).1 = 0 := by
  unfold addS at h ⊢
  split at h
  · exact absurd rfl h
  · rename_i h2; rw [if_neg h2]
set_option maxHeartbeats 1000000 in
theorem total_ref (a : Option Addr) (c : Nat) (l : List Int) (w : World) (hl : l.length ≤ 1000000) (hs : intsAt w a l w.heap.size) (hcc : l.length ≤ c) :
    Calls Tryz.prog 105 #[.slice a l.length c] w fun e w' => e = .returned (.tuple #[.int .i64 (totalS 0 l).1, .int .i64 (totalS 0 l).2]) ∧ w = w' := by
  go_enter Tryz.func105, Tryz.ntmps105
  go_wp2_with fail
  go_loopw [4, 5] (fun n i wr => ∃ (k : Nat) (s : Int), k ≤ l.length ∧ i = .int .i64 k ∧ n = .int .i64 s ∧ wr = w ∧ Hid (totalS 0 l = totalS s (l.drop k))) (fun _ i _ => l.length - (intOf i).toNat)
  case atStart => exact ⟨0, 0, Nat.zero_le _, rfl, rfl, rfl, rfl⟩
  case round =>
    obtain ⟨k, s, hk, rfl, rfl, rfl, ht⟩ := hrel
    by_cases hlt : k < l.length
    · obtain ⟨b, off, rfl, hb, hv⟩ := hs.at hlt
      have Hst := Lib.hid (totalS_step hlt ht.out)
      have k0 : (0 : Int) ≤ (k : Int) := by omega
      have k1 : (k : Int) < (l.length : Int) := by omega
      have dlt : decide ((k : Int) < (l.length : Int)) = true := decide_eq_true k1
      by_cases he : (addS s l[k]).2 = 0
      · have he' : ((addS s l[k]).2 != 0) = false := by simp [he]
        have Hhe := Lib.hid he
        clear he
        go_wp2_with (go_at_call 155; refine (add_ref _ _ _).mono ?_; rintro e w' ⟨rfl, rfl⟩)
        exact ⟨⟨k + 1, (addS s l[k]).1, by omega, by go_num, rfl, trivial, by rw [Hst.out, if_pos Hhe.out]; rfl⟩, by simp [intOf]; omega⟩
      · have he' : ((addS s l[k]).2 != 0) = true := by simpa using he
        have Hhe := Lib.hid he
        clear he
        go_wp2_with (go_at_call 155; refine (add_ref _ _ _).mono ?_; rintro e w' ⟨rfl, rfl⟩)
        go_ret2
        have h0 := addS_bad Hhe.out
        exact ⟨by rw [Hst.out, if_neg Hhe.out, h0]; rfl, rfl⟩
    · have dlt : decide ((k : Int) < (l.length : Int)) = false := decide_eq_false (by omega)
      go_wp2_with fail
      go_ret2
      have : k = l.length := by omega
      subst this
      exact ⟨by rw [ht.out]; simp [totalS], rfl⟩
set_option maxHeartbeats 1000000 in
theorem witness_ref (x : Witness) (w : World) : Calls Tryz.prog 154 #[.agg x.arr] w fun e w' => e = .returned (.bool (witOk x)) ∧ Below w.heap.size w w' := by
  go_enter Tryz.func154, Tryz.ntmps154
  go_wp2_with fail
  all_goals
    go_ret
    refine ⟨ret_bool ?_, (Below.refl _ _).alloc (Nat.le_refl _) _⟩
  all_goals first | (simp [witOk, wth, *, Bool.beq_comm]; done) | (simp [witOk, wth]; intros; omega)
set_option maxHeartbeats 1000000 in
theorem in1_ref (x : In) (w : World) : Calls Tryz.prog 103 #[.agg x.arr] w fun e w' => e = .returned (.bool (inOk x)) ∧ Below w.heap.size w w' := by
  go_enter Tryz.func103, Tryz.ntmps103
  go_wp2_with (go_at_call 154; refine (witness_ref _ _).mono ?_; rintro e w2 ⟨rfl, hb2⟩)
  all_goals
    go_ret
    first
      | refine ⟨ret_bool ?_, ((Below.refl _ _).alloc (Nat.le_refl _) _).trans (hb2.mono (by simp))⟩
      | refine ⟨ret_bool ?_, (Below.refl _ _).alloc (Nat.le_refl _) _⟩
  all_goals first | (simp [inOk, wth, *]; done) | (simp [inOk, wth]; intros; omega)
end Go.Proofs.YtlkojkjeklblkaaGreat
namespace Go.Proofs.YtlkojkjeklblkaaGreat
open Go.RowKit
def keysOf (s : Script) : List Int := [s.key, s.other, s.rev]
set_option maxRecDepth 100000 in
set_option maxHeartbeats 2000000 in
theorem valid_ref (s : Script) (w : World) : Calls Tryz.prog 104 #[.agg s.arr] w fun e w' => e = .returned (.bool (scriptOk s)) ∧ Below w.heap.size w w' := by
  go_enter Tryz.func104, Tryz.ntmps104
  go_wp2_with fail
  obtain ⟨W, hW⟩ : ∃ W, W = (w.alloc (.cells s.arr 194)).alloc (.cells #[.int .i64 s.key, .int .i64 s.other, .int .i64 s.rev] 3) := ⟨_, rfl⟩
  rw [← hW]
  have hbW : Below w.heap.size w W := hW ▸ ((Below.refl _ _).alloc (Nat.le_refl _) _).alloc (by simp) _
  have g1 : W.heap[w.heap.size]? = some (.cells s.arr 194 (0, 0)) := by rw [hW]; exact (heap_alloc_old _ _ (by simp)).trans (heap_alloc_new w _)
  have g2 : W.heap[w.heap.size + 1]? = some (.cells #[.int .i64 s.key, .int .i64 s.other, .int .i64 s.rev] 3 (0, 0)) := by rw [hW, show w.heap.size + 1 = (w.alloc (.cells s.arr 194)).heap.size by simp]; exact heap_alloc_new _ _
  have hc : ∀ k (h : k < (keysOf s).length), W.cell? ⟨w.heap.size + 1, k, none⟩ = some (.int .i64 (keysOf s)[k]) := by
    intro k hk
    rw [(cells_known g2).1]
    match k, hk with
    | 0, _ => rfl
    | 1, _ => rfl
    | 2, _ => rfl
  have c0 : W.cell? ⟨w.heap.size, 0, none⟩ = some (.int .i64 s.kind) := by rw [(cells_known g1).1]; exact Script.arr_0 s
  have c4 : W.cell? ⟨w.heap.size, 4, none⟩ = some (.int .i64 s.delay) := by rw [(cells_known g1).1]; exact Script.arr_4 s
  have c5 : W.cell? ⟨w.heap.size, 5, none⟩ = some (.int .i64 s.expiry) := by rw [(cells_known g1).1]; exact Script.arr_5 s
  have HC := Lib.hid hc
  clear g1 g2 hW hc
  go_loopw [4] (fun v wr => ∃ k : Nat, k ≤ 3 ∧ v = .int .i64 k ∧ wr = W ∧ Hid (∀ j (h : j < (keysOf s).length), j < k → wth (keysOf s)[j] 0 1073741824 = true)) (fun v _ => 3 - (intOf v).toNat)
  case atStart => exact ⟨0, by omega, rfl, rfl, fun j _ h => absurd h (by omega)⟩
  case round =>
    obtain ⟨k, hk, rfl, rfl, hok⟩ := hrel
    by_cases hlt : k < 3
    · have hkl : k < (keysOf s).length := hlt
      obtain ⟨x, hx⟩ : ∃ x, x = (keysOf s)[k] := ⟨_, rfl⟩
      have ck := HC.out k hkl
      rw [← hx] at ck
      have k0 : (0 : Int) ≤ (k : Int) := by omega
      have k1 : (k : Int) < 3 := by omega
      have dlt : decide ((k : Int) < 3) = true := decide_eq_true k1
      have HX := Lib.hid hx
      clear hx
      by_cases hb : wth x 0 1073741824 = true
      · have hok2 : Hid (∀ j (h : j < (keysOf s).length), j < k + 1 → wth (keysOf s)[j] 0 1073741824 = true) := fun j h hj => by
          by_cases e : j = k
          · subst e; rw [← HX.out]; exact hb
          · exact hok.out j h (by omega)
        have hbb := wth_iff.1 hb
        have e1 : decide (x < 0) = false := decide_eq_false (by omega)
        have e2 : decide (1073741824 < x) = false := decide_eq_false (by omega)
        clear hb hbb
        go_wp2_with fail
        exact ⟨⟨k + 1, by omega, by go_num, trivial, hok2⟩, by simp [intOf]; omega⟩
      · have hfin : Hid (scriptOk s = false) := by
          have hb2 : wth x 0 1073741824 = false := by simpa using hb
          rw [HX.out] at hb2
          unfold Hid scriptOk
          match k, hkl, hb2 with
          | 0, _, h => have h : wth s.key 0 1073741824 = false := h; rw [h]; rfl
          | 1, _, h => have h : wth s.other 0 1073741824 = false := h; rw [h]; simp
          | 2, _, h => have h : wth s.rev 0 1073741824 = false := h; rw [h]; simp
        have hbb : x < 0 ∨ 1073741824 < x := by
          by_cases h1 : x < 0
          · exact .inl h1
          · by_cases h2 : 1073741824 < x
            · exact .inr h2
            · exact absurd (wth_iff.2 ⟨by omega, by omega⟩) hb
        clear hb
        by_cases h1 : x < 0
        · have e1 : decide (x < 0) = true := decide_eq_true h1
          clear hbb
          go_wp2_with fail
          go_ret
          exact ⟨by rw [hfin.out]; rfl, hbW⟩
        · have e1 : decide (x < 0) = false := decide_eq_false h1
          have e2 : decide (1073741824 < x) = true := decide_eq_true (by omega)
          clear hbb
          go_wp2_with fail
          go_ret
          exact ⟨by rw [hfin.out]; rfl, hbW⟩
    · have dlt : decide ((k : Int) < 3) = false := decide_eq_false (by omega)
      have h3 : Hid (wth s.key 0 1073741824 = true ∧ wth s.other 0 1073741824 = true ∧ wth s.rev 0 1073741824 = true) :=
        ⟨hok.out 0 (by simp [keysOf]) (by omega), hok.out 1 (by simp [keysOf]) (by omega), hok.out 2 (by simp [keysOf]) (by omega)⟩
      have hfin : Hid (scriptOk s = (wth s.kind 1 6 && wth s.delay 0 65535 && wth s.expiry 0 1000000)) := by
        unfold Hid scriptOk
        rw [h3.out.1, h3.out.2.1, h3.out.2.2]; rfl
      go_wp2_with fail
      all_goals
        go_ret
        refine ⟨ret_bool ?_, hbW⟩
        rw [hfin.out]
      all_goals first | (simp [wth, *]; done) | (simp [wth]; intros; omega)
end Go.Proofs.YtlkojkjeklblkaaGreat
namespace Go.Proofs.YtlkojkjeklblkaaGreat
open Go.RowKit
attribute [local go_sem] row?_drewN
theorem In.ext_prev (x : In) : x.arr.extract 0 33 = x.prev.arr := In.ext_0 x
theorem spends_none {l : List In} {i : Nat} (hi : i < l.length) (h : ∀ k (hk : k < l.length), k < i → l[k].prev ≠ l[i].prev) : spendsAt (l.take i) l[i].prev < 0 := by
  unfold spendsAt
  rw [firstAt_none (fun j hj => ?_)]
  · decide
  · have hj2 : j < i := by rw [List.length_take] at hj; omega
    rw [List.getElem_take]
    exact decide_eq_false (h j (by omega) hj2)
theorem spends_some {l : List In} {i k : Nat} (hi : i < l.length) (hk : k < i) (h : l[k].prev = l[i].prev) : ¬ spendsAt (l.take i) l[i].prev < 0 := by
  intro hlt
  unfold spendsAt firstAt at hlt
  cases hf : (l.take i).findIdx? (fun x => decide (x.prev = l[i].prev)) with
  | none =>
    rw [List.findIdx?_eq_none_iff] at hf
    have := hf (l[k]) (by rw [List.mem_iff_getElem]; exact ⟨k, by rw [List.length_take]; omega, by rw [List.getElem_take]⟩)
    simp [h] at this
  | some j =>
    rw [hf] at hlt
    simp at hlt
    omega
set_option maxRecDepth 100000 in
set_option maxHeartbeats 4000000 in
theorem check_ref (v : TxV) (t : Tx) (w : World) (ht : isTx w v t w.heap.size) :
    Calls Tryz.prog 62 #[.agg v.arr] w fun e w' => e = .returned (.int .i64 (checkS t)) ∧ Below w.heap.size w w' := by
  obtain ⟨⟨ia, il, ic⟩, ⟨oa, ol, oc⟩, lk⟩ := v
  obtain ⟨⟨hn1, hcc1, hr1⟩, ⟨hn2, hcc2, hr2⟩, hl⟩ := ht
  simp only at hn1 hcc1 hr1 hn2 hcc2 hr2 hl
  subst hn1 hn2 hl
  obtain ⟨W, hW⟩ : ∃ W, W = w.alloc (.cells (TxV.mk ⟨ia, t.ins.length, ic⟩ ⟨oa, t.outs.length, oc⟩ t.lock).arr 72) := ⟨_, rfl⟩
  have hbW : Below w.heap.size w W := hW ▸ (Below.refl _ _).alloc (Nat.le_refl _) _
  have g1 : W.heap[w.heap.size]? = some (.cells (TxV.mk ⟨ia, t.ins.length, ic⟩ ⟨oa, t.outs.length, oc⟩ t.lock).arr 72 (0, 0)) := hW ▸ heap_alloc_new w _
  have hcell : ∀ Q, Below W.heap.size W Q → Q.cell? ⟨w.heap.size, 0, none⟩ = some (.slice ia t.ins.length ic) ∧ Q.cell? ⟨w.heap.size, 1, none⟩ = some (.slice oa t.outs.length oc) ∧ Q.cell? ⟨w.heap.size, 2, none⟩ = some (.int .i64 t.lock) := by
    intro Q hQ
    have hg := (hQ.block _ (cells_known g1).2.2).trans g1
    rw [(cells_known hg).1, (cells_known hg).1, (cells_known hg).1]
    exact ⟨TxV.arr_0 _, TxV.arr_1 _, TxV.arr_2 _⟩
  have HC := Lib.hid hcell
  have HR1 := Lib.hid ((hr1.below hbW).mono hbW.size)
  have HR2 := Lib.hid ((hr2.below hbW).mono hbW.size)
  obtain ⟨i0, hi0, hz0, hz1, hz2⟩ := info_parts Tryz.info3
  have hwl : w.heap.size < W.heap.size := (cells_known g1).2.2
  clear hr1 hr2 g1 hcell
  obtain ⟨q0, q1, q2⟩ := HC.out W (Below.refl _ _)
  by_cases c1 : t.ins.length ≤ 100
  case neg =>
    have n1 : 100 < t.ins.length := by omega
    have e1 : decide ((100 : Int) < (t.ins.length : Int)) = true := decide_eq_true (by omega)
    have hS : Hid (checkS t = 3) := by unfold Hid checkS; rw [if_pos (by omega)]
    clear c1
    go_enter Tryz.func62, Tryz.ntmps62
    go_upto_region 1 with fail
    rw [← hW]
    clear hW
    go_wp2_with fail
    go_ret
    exact ⟨by rw [hS.out]; rfl, hbW⟩
  by_cases c2 : t.outs.length ≤ 100
  case neg =>
    have n1 : ¬ 100 < t.ins.length := by omega
    have n2 : 100 < t.outs.length := by omega
    have e1 : decide ((100 : Int) < (t.ins.length : Int)) = false := decide_eq_false (by omega)
    have e2 : decide ((100 : Int) < (t.outs.length : Int)) = true := decide_eq_true (by omega)
    have hS : Hid (checkS t = 3) := by unfold Hid checkS; rw [if_pos (by omega)]
    clear c1 c2
    go_enter Tryz.func62, Tryz.ntmps62
    go_upto_region 1 with fail
    rw [← hW]
    clear hW
    go_wp2_with fail
    go_ret
    exact ⟨by rw [hS.out]; rfl, hbW⟩
  have hno3 : ¬ (100 < t.ins.length ∨ 100 < t.outs.length) := by omega
  have n1 : ¬ 100 < t.ins.length := by omega
  have n2 : ¬ 100 < t.outs.length := by omega
  have e1 : decide ((100 : Int) < (t.ins.length : Int)) = false := decide_eq_false (by omega)
  have e2 : decide ((100 : Int) < (t.outs.length : Int)) = false := decide_eq_false (by omega)
  by_cases c3 : t.ins.length = 0
  · have hS : Hid (checkS t = 1) := by unfold Hid checkS; rw [if_neg hno3, if_pos (by omega)]
    have e3 : ((t.ins.length : Int) == 0) = true := by rw [beq_iff_eq]; omega
    have hc3 := Lib.hid c3
    clear c1 c2 c3 hno3
    go_enter Tryz.func62, Tryz.ntmps62
    go_upto_region 1 with fail
    rw [← hW]
    clear hW
    go_wp2_with fail
    go_ret
    exact ⟨by rw [hS.out]; rfl, hbW⟩
  have e3 : ((t.ins.length : Int) == 0) = false := by rw [beq_eq_false_iff_ne]; omega
  have HNO := Lib.hid hno3
  clear hno3
  go_enter Tryz.func62, Tryz.ntmps62
  go_upto_region 1 with fail
  rw [← hW]
  clear hW
  go_wp2_with fail
  clear q0 q1 q2
  go_loopw [3] (fun v wr => ∃ i : Nat, i ≤ t.ins.length ∧ v = .int .i64 i ∧ Hid (∀ j, j < i → inGood t.ins j = true) ∧ Below W.heap.size W wr) (fun v _ => t.ins.length - (intOf v).toNat)
  case atStart => exact ⟨0, Nat.zero_le _, rfl, fun j h => absurd h (by omega), Below.refl _ _⟩
  case round =>
    obtain ⟨i, hi, rfl, hgood, hbr⟩ := hrel
    obtain ⟨q0, q1, q2⟩ := HC.out wr hbr
    by_cases hlt : i < t.ins.length
    · obtain ⟨b0, off, e0, hb0, hr⟩ := (HR1.out.below hbr).at hlt
      subst e0
      obtain ⟨x, hx⟩ : ∃ x, x = t.ins[i] := ⟨_, rfl⟩
      rw [← hx] at hr
      have hin := inAt_eq hlt
      rw [← hx] at hin
      have k0 : (0 : Int) ≤ (i : Int) := by omega
      have k1 : (i : Int) < (t.ins.length : Int) := by omega
      have dlt : decide ((i : Int) < (t.ins.length : Int)) = true := decide_eq_true k1
      have h1 := in1_ref x wr
      obtain ⟨bi, hbi⟩ : ∃ bi, bi = inOk x := ⟨_, rfl⟩
      rw [← hbi] at h1
      have HX := Lib.hid (And.intro hx (And.intro hin hbi))
      clear hx hin hbi
      cases bi with
      | false =>
        have hS : Hid (checkS t = 1) := by
          have hbad : inGood t.ins i = false := by unfold inGood; rw [HX.out.2.1, ← HX.out.2.2]; rfl
          unfold checkS Hid; rw [if_neg HNO.out, if_pos (by simp [insOk_false hlt hbad])]
        go_wp2_with (go_at_call 103; refine h1.mono ?_; rintro e w2 ⟨rfl, hb2⟩)
        go_ret
        exact ⟨by rw [hS.out]; rfl, hbW.trans ((hbr.trans (hb2.mono hbr.size)).mono hbW.size)⟩
      | true =>
        go_wp2_with (go_at_call 103; refine h1.mono ?_; rintro e w2 ⟨rfl, hb2⟩)
        have hb3 := hbr.trans (hb2.mono hbr.size)
        clear h1 hb2 hr q0 q1 q2
        go_loopw [4] (fun v wi => ∃ k : Nat, k ≤ i ∧ v = .int .i64 k ∧ Hid (∀ j (hj : j < t.ins.length), j < k → t.ins[j].prev ≠ x.prev) ∧ Below W.heap.size W wi) (fun v _ => i - (intOf v).toNat)
        case atStart => exact ⟨0, Nat.zero_le _, rfl, fun j _ h => absurd h (by omega), hb3⟩
        case round =>
          clear hb3
          obtain ⟨k, hk, rfl, hno, hbk⟩ := hrel
          obtain ⟨q0, q1, q2⟩ := HC.out wr hbk
          by_cases hki : k < i
          · have hkl : k < t.ins.length := by omega
            obtain ⟨b1, off1, e1', hb1, hrk⟩ := (HR1.out.below hbk).at hkl
            obtain ⟨b2, off2, e2', hb2, hri⟩ := (HR1.out.below hbk).at hlt
            cases e1'
            cases e2'
            obtain ⟨y, hy⟩ : ∃ y, y = t.ins[k] := ⟨_, rfl⟩
            rw [← hy] at hrk
            rw [← HX.out.1] at hri
            have r1 : row? wr ⟨b0, off + k * 37, none⟩ 33 = some y.prev.arr := by
              have := row?_part hrk 0 33 (by omega)
              simp only [Nat.add_zero, Nat.zero_add] at this
              rw [this, In.ext_prev]
            have r2 : row? wr ⟨b0, off + i * 37, none⟩ 33 = some x.prev.arr := by
              have := row?_part hri 0 33 (by omega)
              simp only [Nat.add_zero, Nat.zero_add] at this
              rw [this, In.ext_prev]
            have j0 : (0 : Int) ≤ (k : Int) := by omega
            have j1 : (k : Int) < (t.ins.length : Int) := by omega
            have dki : decide ((k : Int) < (i : Int)) = true := decide_eq_true (by omega)
            have HY := Lib.hid hy
            by_cases hd : y.prev = x.prev
            · have dd : decide (y.prev = x.prev) = true := decide_eq_true hd
              have hS : Hid (checkS t = 1) := by
                have hs := spends_some hlt hki (by rw [← hy, ← HX.out.1]; exact hd)
                have hbad : inGood t.ins i = false := by
                  unfold inGood
                  rw [HX.out.2.1, decide_eq_false (by rw [HX.out.1]; exact hs)]
                  simp
                unfold checkS Hid; rw [if_neg HNO.out, if_pos (by simp [insOk_false hlt hbad])]
              clear hd hy hrk hri
              go_wp2_with fail
              go_quiet (fail)
              go_wp2_with fail
              go_ret
              exact ⟨by rw [hS.out]; rfl, hbW.trans ((below_drewN hbk _).mono hbW.size)⟩
            · have dd : decide (y.prev = x.prev) = false := decide_eq_false hd
              have hno2 : Hid (∀ j (hj : j < t.ins.length), j < k + 1 → t.ins[j].prev ≠ x.prev) := fun j hj hjk => by
                by_cases e : j = k
                · subst e; rw [← HY.out]; exact hd
                · exact hno.out j hj (by omega)
              clear hd hy hrk hri
              go_wp2_with fail
              go_quiet (fail)
              go_wp2_with fail
              exact ⟨⟨k + 1, by omega, by go_num, hno2, below_drewN hbk _⟩, by simp [intOf]; omega⟩
          · have dki : decide ((k : Int) < (i : Int)) = false := decide_eq_false (by omega)
            have hg2 : Hid (∀ j, j < i + 1 → inGood t.ins j = true) := fun j hj => by
              by_cases e : j = i
              · subst e
                unfold inGood
                rw [HX.out.2.1, ← HX.out.2.2, decide_eq_true (by rw [HX.out.1]; exact spends_none hlt (fun m hm hmj => by rw [← HX.out.1]; exact hno.out m hm (by omega)))]
                rfl
              · exact hgood.out j (by omega)
            go_wp2_with fail
            exact ⟨⟨i + 1, by omega, by go_num, hg2, hbk⟩, by simp [intOf]; omega⟩
    · have dlt : decide ((i : Int) < (t.ins.length : Int)) = false := decide_eq_false (by omega)
      have hgi : Hid (insOk t.ins = true) := insOk_true (fun j hj => hgood.out j (by omega))
      clear hgood
      go_wp2_with fail
      clear q0 q1 q2
      go_loopw [5, 6] (fun vs v wr => ∃ k : Nat, k ≤ t.outs.length ∧ v = .int .i64 k ∧ Hid (∀ j (h : j < t.outs.length), j < k → scriptOk t.outs[j].script = true) ∧ Below W.heap.size W wr ∧ wr.ownsRow W.heap.size 3 1 vs k (intVs (valsOf (t.outs.take k)))) (fun _ v _ => t.outs.length - (intOf v).toNat)
      case atStart => exact ⟨0, Nat.zero_le _, rfl, fun j _ h => absurd h (by omega), hbr, World.ownsRow_nil _ _ _ _⟩
      case round =>
        clear hbr
        obtain ⟨k, hk, rfl, hsc, hbr, hown⟩ := hrel
        obtain ⟨q0, q1, q2⟩ := HC.out wr hbr
        by_cases hlt2 : k < t.outs.length
        · obtain ⟨b0, off, e0, hb0, hr⟩ := (HR2.out.below hbr).at hlt2
          subst e0
          obtain ⟨x, hx⟩ : ∃ x, x = t.outs[k] := ⟨_, rfl⟩
          rw [← hx] at hr
          have r1 : row? wr ⟨b0, off + k * 39 + 1, none⟩ 38 = some x.script.arr := by
            have := row?_part hr 1 38 (by omega)
            rw [this]; simp
          have k0 : (0 : Int) ≤ (k : Int) := by omega
          have k1 : (k : Int) < (t.outs.length : Int) := by omega
          have dlt2 : decide ((k : Int) < (t.outs.length : Int)) = true := decide_eq_true k1
          have h1 := valid_ref x.script wr
          obtain ⟨bs, hbs⟩ : ∃ bs, bs = scriptOk x.script := ⟨_, rfl⟩
          rw [← hbs] at h1
          have HX := Lib.hid (And.intro hx (And.intro hbs hr))
          have HB := Lib.hid (And.intro hb0 hbr)
          clear hx hbs
          cases bs with
          | false =>
            have hS : Hid (checkS t = 1) := by
              unfold checkS Hid; rw [if_neg HNO.out, if_pos]
              refine .inr (.inr (.inl ?_))
              rw [List.all_eq_false]
              exact ⟨_, List.getElem_mem hlt2, by rw [← HX.out.1, ← HX.out.2.1]; simp⟩
            go_wp2_with (go_at_call 104; refine h1.mono ?_; rintro e w2 ⟨rfl, hb2⟩)
            go_ret
            exact ⟨by rw [hS.out]; rfl, hbW.trans ((hbr.trans (hb2.mono hbr.size)).mono hbW.size)⟩
          | true =>
            have hsc2 : Hid (∀ j (h : j < t.outs.length), j < k + 1 → scriptOk t.outs[j].script = true) := fun j h hj => by
              by_cases e : j = k
              · subst e; rw [← HX.out.1]; exact HX.out.2.1.symm
              · exact hsc.out j h (by omega)
            have hmx : k + 1 ≤ maxLen := by unfold maxLen; omega
            clear hr
            go_wp2_with (first | (go_at_call 104; refine h1.mono ?_; rintro e w3 ⟨rfl, hb3⟩; have hown3 := ownsRow_below hown hb3; have hbr3 := HB.out.2.trans (hb3.mono HB.out.2.size); have p1 := (HC.out w3 hbr3).2.1; have p2 : w3.cell? ⟨b0, off + k * 39, none⟩ = some (.int .i64 x.value) := (hb3.cell (p := ⟨b0, off + k * 39, none⟩) (Nat.lt_of_lt_of_le HB.out.1 HB.out.2.size)).trans (by { have h9 := row?_cellAt HX.out.2.2 0 (by omega); rw [Out.arr_0] at h9; exact h9 }); have hs3 := hbr3.size) | (at_builtin; refine wpList_append_own _ rfl _ _ 75 rfl W.heap.size 3 i0 (.int .i64 0) 1 8 Tryz.underlying75 hi0 hz0 hz1 hz2 rfl (by decide) _ _ _ rfl (hown3.alloc _) ⟨w3.heap.size, 0, none⟩ 1 1 [.int .i64 x.value] rfl rfl (cell_one_new _ _ _) (by simp [Value.oneCell']) hmx (by omega) (by simp; omega) ?_))
            intro v' w4 hown4 hgrow4 _
            have Hx := Lib.hid (valsOf_succ hlt2)
            have hb5 : Below W.heap.size W w4 := (hbr3.alloc hs3 _).grown hgrow4 (by simp; omega) (fun k hk => by have := (hown3.lt k hk).1; omega)
            have HO4 := Lib.hid (And.intro hown4 hb5)
            clear h1 hown hown3 hgrow4 hown4 hb5 hb3 p1 p2 r1 q0 q1 q2
            go_wp2_with fail
            exact ⟨⟨k + 1, by omega, by go_num, hsc2, HO4.out.2, by rw [Hx.out, ← HX.out.1]; exact HO4.out.1⟩, by simp [intOf]; omega⟩
        · have dlt2 : decide ((k : Int) < (t.outs.length : Int)) = false := decide_eq_false (by omega)
          have hall : Hid (t.outs.all (fun o => scriptOk o.script) = true) := by
            unfold Hid; rw [List.all_eq_true]; intro x hx
            obtain ⟨j, hj, rfl⟩ := List.mem_iff_getElem.1 hx
            exact hsc.out j hj (by omega)
          have hke : t.outs.take k = t.outs := by rw [show k = t.outs.length by omega, List.take_length]
          rw [hke] at hown
          obtain ⟨va, vc, rfl, hvc, -⟩ := ownsRow_slice hown
          obtain ⟨hkl, hints⟩ := intsAt_own hown
          have hkl2 : k = (valsOf t.outs).length := hkl
          have htot := total_ref va vc (valsOf t.outs) wr (by rw [valsOf_length]; omega) hints (by omega)
          rw [← hkl2] at htot
          have HV := Lib.hid (And.intro hown (And.intro hkl2 hkl))
          clear hown hints hke hkl2 hkl
          by_cases d4 : wth t.lock 0 1000000 = true
          · have hS : Hid (checkS t = (totalS 0 (valsOf t.outs)).2) := by
              unfold checkS Hid; rw [if_neg HNO.out, if_neg]
              rintro (h | h | h | h)
              · exact c3 h
              · rw [hgi.out] at h; simp at h
              · rw [hall.out] at h; simp at h
              · rw [d4] at h; simp at h
            have d5 := wth_iff.1 d4
            have f1 : decide (t.lock < 0) = false := decide_eq_false (by omega)
            have f2 : decide (1000000 < t.lock) = false := decide_eq_false (by omega)
            clear d4 d5
            go_wp2_with (go_at_call 105; refine htot.mono ?_; rintro e w2 ⟨rfl, rfl⟩)
            go_ret
            exact ⟨by rw [hS.out]; rfl, hbW.trans (hbr.mono hbW.size)⟩
          · have hS : Hid (checkS t = 1) := by
              have d4' : wth t.lock 0 1000000 = false := by simpa using d4
              unfold checkS Hid; rw [if_neg HNO.out, if_pos]
              exact .inr (.inr (.inr d4'))
            clear htot
            by_cases f1 : t.lock < 0
            · have f2 : decide (t.lock < 0) = true := decide_eq_true f1
              clear d4
              go_wp2_with fail
              go_ret
              exact ⟨by rw [hS.out]; rfl, hbW.trans (hbr.mono hbW.size)⟩
            · have f2 : decide (t.lock < 0) = false := decide_eq_false f1
              have f3 : decide (1000000 < t.lock) = true := decide_eq_true (by
                by_cases h : 1000000 < t.lock
                · exact h
                · exact absurd (wth_iff.2 ⟨by omega, by omega⟩) d4)
              clear d4
              go_wp2_with fail
              go_ret
              exact ⟨by rw [hS.out]; rfl, hbW.trans (hbr.mono hbW.size)⟩
end Go.Proofs.YtlkojkjeklblkaaGreat
