/- Contracts of package tx, continued: a transaction's number. -/
import Derived.Test.YtlkojkjeklblkaaGreatShaH
import Derived.Test.YtlkojkjeklblkaaGreatTxE
set_option linter.unusedSimpArgs false
set_option linter.unusedVariables false
namespace Go.Proofs.YtlkojkjeklblkaaGreat
open Go.RowKit
def idS (t : Tx) : Hash := if checkS t = 0 then twiceS (bodyS t) else Hash.zero
theorem addS_money {s a : Int} (h : (addS s a).2 = 0) : money a = true := by
  unfold addS at h
  split at h
  · rename_i hm; simp at hm; exact hm.1.2
  · simp at h
theorem totalS_money : ∀ (l : List Int) (s : Int), (totalS s l).2 = 0 → ∀ a ∈ l, money a = true
  | [], _, _, a, ha => by cases ha
  | b :: l, s, h, a, ha => by
    unfold totalS at h
    split at h
    · rename_i h0
      rcases List.mem_cons.1 ha with rfl | ha
      · exact addS_money h0
      · exact totalS_money l _ h a ha
    · rename_i h0; exact absurd h h0
theorem wth_bd {n a b : Int} (h : wth n a b = true) : a ≤ n ∧ n ≤ b := wth_iff.1 h
/-- What a transaction that may be is like. -/
theorem checkS_ok {t : Tx} (h : checkS t = 0) : t.ins.length ≤ 100 ∧ t.outs.length ≤ 100 ∧ t.ins ≠ [] ∧ (∀ i ∈ t.ins, inNum i) ∧ (∀ o ∈ t.outs, outNum o) ∧ OkNum t.lock := by
  unfold checkS at h
  split at h
  · cases h
  · rename_i h1
    split at h
    · cases h
    · rename_i h2
      simp only [not_or, Nat.not_lt] at h1
      simp only [not_or, Bool.not_eq_false] at h2
      obtain ⟨h20, h21, h22, h23⟩ := h2
      refine ⟨h1.1, h1.2, fun e => h20 (by rw [e]; rfl), ?_, ?_, ?_⟩
      · intro i hi
        obtain ⟨k, hk, rfl⟩ := List.mem_iff_getElem.1 hi
        unfold insOk at h21
        rw [List.all_eq_true] at h21
        have := h21 k (by simpa using hk)
        unfold inGood at this
        rw [inAt_eq hk] at this
        simp only [Bool.and_eq_true] at this
        have h3 := this.1
        unfold inOk at h3
        simp only [Bool.and_eq_true] at h3
        have a1 := wth_bd h3.1.1
        have a2 := wth_bd h3.1.2
        unfold inNum OkNum
        omega
      · intro o ho
        rw [List.all_eq_true] at h22
        have h3 := h22 o ho
        have hm := money_iff.1 (totalS_money _ _ h o.value (List.mem_map.2 ⟨o, ho, rfl⟩))
        unfold scriptOk at h3
        simp only [Bool.and_eq_true] at h3
        obtain ⟨⟨⟨⟨⟨b1, b2⟩, b3⟩, b4⟩, b5⟩, b6⟩ := h3
        have b1 := wth_bd b1
        have b2 := wth_bd b2
        have b3 := wth_bd b3
        have b4 := wth_bd b4
        have b5 := wth_bd b5
        have b6 := wth_bd b6
        refine ⟨by unfold OkNum; omega, fun x hx => ?_⟩
        simp only [Script.ints, List.mem_cons, List.not_mem_nil, or_false] at hx
        unfold OkNum
        rcases hx with rfl | rfl | rfl | rfl | rfl | rfl <;> omega
      · have := wth_bd h23
        unfold OkNum; omega
theorem bodyS_le (t : Tx) (h1 : t.ins.length ≤ 1000000) (h2 : t.outs.length ≤ 1000000) : (bodyS t).length ≤ 200000000 := by
  have a1 := encN_le [(t.ins.length : Int)]
  have a2 := flat_le inB 50 inB_le t.ins
  have a3 := encN_le [(t.outs.length : Int)]
  have a4 := flat_le outB 95 outB_le t.outs
  have a5 := encN_le [t.lock]
  unfold bodyS
  simp only [List.length_append, List.length_cons, List.length_nil] at *
  omega
theorem bytesAt_ink {w : World} {p : Nat} {s : Sl} {l : List UInt8} {B : Nat} (h : inkAt w p s l B) : bytesAt w s l w.heap.size := by
  have hl := (h.2.2.1).1
  rw [byteVs_length] at hl
  obtain ⟨a, c, hs, hn, hg⟩ := ownsRow_slice h.2.2.1
  obtain ⟨sa, sn, sc⟩ := s
  unfold Sl.v at hs
  simp only [Value.slice.injEq] at hs
  obtain ⟨rfl, rfl, rfl⟩ := hs
  refine ⟨rfl, fun hne => ?_⟩
  obtain ⟨g, hga, hB, hlt⟩ := hg (by intro e; exact hne (List.eq_nil_of_length_eq_zero e))
  refine ⟨g, 0, hga, hlt, fun k hk => ?_⟩
  have := (h.2.2.1).cells (g := g) (by rw [Sl.v, hga]; rfl) k (byteV l[k]) (byteVs_get hk)
  have e : (⟨g, 0, none⟩ : Addr).add k = ⟨g, 0 + k, none⟩ := by unfold Addr.add; split <;> simp_all
  rw [e] at this
  exact this
set_option maxRecDepth 100000 in
set_option maxHeartbeats 1000000 in
theorem id_tx (v : TxV) (t : Tx) (w : World) (ht : isTx w v t w.heap.size) :
    Calls Tryz.prog 99 #[.agg v.arr] w fun e w' => e = .returned (.agg (idS t).arr) ∧ Below w.heap.size w w' := by
  by_cases h0 : checkS t = 0
  · have t0 : (checkS t != 0) = false := by simp [h0]
    have hok := checkS_ok h0
    have hbl := bodyS_le t (by omega) (by omega)
    have H0 := Lib.hid h0
    clear h0
    go_enter Tryz.func99, Tryz.ntmps99
    go_wp2_with fail
    obtain ⟨W, hW⟩ : ∃ W, W = (w.alloc (.cells v.arr 72)).alloc (.cells Hash.zero.arr 38) := ⟨_, rfl⟩
    obtain ⟨hb, hhb⟩ : ∃ hb, hb = w.heap.size + 1 := ⟨_, rfl⟩
    rw [← hW, ← hhb]
    have hbW : Below w.heap.size w W := hW ▸ ((Below.refl w.heap.size w).alloc (Nat.le_refl _) _).alloc (by simp) _
    have hWs : W.heap.size = w.heap.size + 2 := by rw [hW]; simp
    have hHW : W.heap[hb]? = some (.cells Hash.zero.arr 38 (0, 0)) := by rw [hW, hhb]; show ((w.heap.push _).push _)[w.heap.size + 1]? = _; rw [show w.heap.size + 1 = (w.heap.push (.cells v.arr 72)).size by simp, Array.getElem?_push_size]
    have hTW : row? W ⟨w.heap.size, 0, none⟩ 3 = some v.arr := by rw [hW, row?_alloc_past _ _ _ _ (by simp), row?_alloc_at _ _ _ _ _ _ _ rfl]; simp
    refine (check_tx v t W ((ht.below hbW).mono hbW.size)).mono ?_
    rintro e w1 ⟨rfl, hb1⟩
    have hT1 : row? w1 ⟨w.heap.size, 0, none⟩ 3 = some v.arr := by rw [row?_below hb1 (by simp; omega)]; exact hTW
    have hH1 : w1.heap[hb]? = some (.cells Hash.zero.arr 38 (0, 0)) := by rw [hb1.block hb (by omega)]; exact hHW
    have hb01 : Below w.heap.size w w1 := hbW.trans (hb1.mono (by omega))
    have hs1 := hb1.size
    have ht1 : isTx w1 v t w1.heap.size := (ht.below hb01).mono hb01.size
    have hge : w.heap.size ≤ hb := by omega
    have hlt1 : hb < w1.heap.size := by omega
    have HH1 := Lib.hid hH1
    clear hW hhb hWs hHW hTW hbW hb1 hH1
    go_wp2_with fail
    refine (body_tx v t w1 ht1 (by omega) (by omega) hok.2.2.2.1 hok.2.2.2.2.1 hok.2.2.2.2.2).mono ?_
    rintro e w2 ⟨p, s, rfl, hink, hb2⟩
    have hby := bytesAt_ink hink
    have hpb := hink.2.1
    obtain ⟨cp, fp, lp⟩ := cells_known hpb
    have cp0 : w2.cell? ⟨p, 0, none⟩ = some (.slice s.a s.n s.c) := by rw [cp]; exact InkV.arr_0 _
    have HBY := Lib.hid hby
    have hs2 := hb2.size
    clear hink hpb cp hby
    go_wp2_with fail
    refine (twice_sha w2.heap.size 1 s (bodyS t) 137 _ (by show (w2.heap.push _)[w2.heap.size]? = _; rw [Array.getElem?_push_size]) ((HBY.out.below ((Below.refl w2.heap.size w2).alloc (Nat.le_refl _) _)).mono (by simp)) (by omega)).mono ?_
    rintro e w3 ⟨rfl, hb3⟩
    have hb13 : Below w1.heap.size w1 w3 := hb2.trans ((((Below.refl w2.heap.size w2).alloc (Nat.le_refl _) _).trans (hb3.mono (by simp))).mono hs2)
    have HH3 : Hid (w3.heap[hb]? = some (.cells Hash.zero.arr 38 (0, 0))) := by unfold Hid; rw [hb13.block hb hlt1]; exact HH1.out
    have hs3 := hb13.size
    go_wp2_with (refine wpList_storeHash (.tmp 2) (.tmp 13) rfl rfl hb (twiceS (bodyS t)) Hash.zero rfl rfl HH3.out ?_; intro wz hhz huz)
    refine bodyPost_ret (results_cell_row rfl _ _ hb 38 (twiceS (bodyS t)).arr (0, 0) _ rfl hhz Tryz.underlying38 rfl (by rw [size_Hash]; simp)) rfl ⟨by unfold idS; rw [if_pos H0.out], ?_⟩
    exact hb01.trans ((hb13.mono hb01.size).trans (huz.below (by omega) (fun i e => by have e2 : i = hb := e; omega)))
  · have t0 : (checkS t != 0) = true := by simpa using h0
    have H0 := Lib.hid h0
    clear h0
    go_enter Tryz.func99, Tryz.ntmps99
    go_wp2_with fail
    obtain ⟨W, hW⟩ : ∃ W, W = (w.alloc (.cells v.arr 72)).alloc (.cells Hash.zero.arr 38) := ⟨_, rfl⟩
    obtain ⟨hb, hhb⟩ : ∃ hb, hb = w.heap.size + 1 := ⟨_, rfl⟩
    rw [← hW, ← hhb]
    have hbW : Below w.heap.size w W := hW ▸ ((Below.refl w.heap.size w).alloc (Nat.le_refl _) _).alloc (by simp) _
    have hWs : W.heap.size = w.heap.size + 2 := by rw [hW]; simp
    have hHW : W.heap[hb]? = some (.cells Hash.zero.arr 38 (0, 0)) := by rw [hW, hhb]; show ((w.heap.push _).push _)[w.heap.size + 1]? = _; rw [show w.heap.size + 1 = (w.heap.push (.cells v.arr 72)).size by simp, Array.getElem?_push_size]
    have hTW : row? W ⟨w.heap.size, 0, none⟩ 3 = some v.arr := by rw [hW, row?_alloc_past _ _ _ _ (by simp), row?_alloc_at _ _ _ _ _ _ _ rfl]; simp
    refine (check_tx v t W ((ht.below hbW).mono hbW.size)).mono ?_
    rintro e w1 ⟨rfl, hb1⟩
    have hT1 : row? w1 ⟨w.heap.size, 0, none⟩ 3 = some v.arr := by rw [row?_below hb1 (by simp; omega)]; exact hTW
    have hH1 : w1.heap[hb]? = some (.cells Hash.zero.arr 38 (0, 0)) := by rw [hb1.block hb (by omega)]; exact hHW
    have hb01 : Below w.heap.size w w1 := hbW.trans (hb1.mono (by omega))
    have hs1 := hb1.size
    have ht1 : isTx w1 v t w1.heap.size := (ht.below hb01).mono hb01.size
    have hge : w.heap.size ≤ hb := by omega
    have hlt1 : hb < w1.heap.size := by omega
    have HH1 := Lib.hid hH1
    clear hW hhb hWs hHW hTW hbW hb1 hH1
    go_wp2_with (refine wpList_storeHash (.tmp 2) (.tmp 6) rfl rfl hb Hash.zero Hash.zero rfl rfl HH1.out ?_; intro wz hhz huz)
    refine bodyPost_ret (results_cell_row rfl _ _ hb 38 Hash.zero.arr (0, 0) _ rfl hhz Tryz.underlying38 rfl (by rw [size_Hash]; simp)) rfl ⟨by unfold idS; rw [if_neg H0.out], ?_⟩
    exact hb01.trans (huz.below (by omega) (fun i e => by have e2 : i = hb := e; omega))
end Go.Proofs.YtlkojkjeklblkaaGreat
