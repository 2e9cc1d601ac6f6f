/- Contracts of package tx, continued: what stands ahead of the witnesses, as bytes. -/
import Derived.Test.YtlkojkjeklblkaaGreatTxD
import Derived.Test.YtlkojkjeklblkaaGreatNumE
import Derived.Deep.Onto
set_option linter.unusedSimpArgs false
set_option linter.unusedVariables false
namespace Go.Proofs.YtlkojkjeklblkaaGreat
open Go.RowKit
def inB (i : In) : List UInt8 := i.prev.tx.l ++ encN [i.prev.n] ++ encN [i.seq]
def outB (o : Out) : List UInt8 := encN [o.value] ++ (encN o.script.ints ++ o.script.hash.l)
def bodyS (t : Tx) : List UInt8 := encN [(t.ins.length : Int)] ++ t.ins.flatMap inB ++ encN [(t.outs.length : Int)] ++ t.outs.flatMap outB ++ encN [t.lock]
def inNum (i : In) : Prop := OkNum i.prev.n ∧ OkNum i.seq
def outNum (o : Out) : Prop := OkNum o.value ∧ ∀ x ∈ o.script.ints, OkNum x
theorem flat_take {α : Type} (f : α → List UInt8) {l : List α} {k : Nat} (hk : k < l.length) : (l.take (k + 1)).flatMap f = (l.take k).flatMap f ++ f l[k] := by
  rw [List.take_succ_eq_append_getElem hk, List.flatMap_append]; simp
theorem flat_le {α : Type} (f : α → List UInt8) (c : Nat) (h : ∀ x, (f x).length ≤ c) (l : List α) : (l.flatMap f).length ≤ c * l.length := by
  induction l with
  | nil => simp
  | cons x l ih => have := h x; simp only [List.flatMap_cons, List.length_append, List.length_cons, Nat.mul_add]; omega
theorem inB_le (i : In) : (inB i).length ≤ 50 := by
  have h1 := encN_le [i.prev.n]; have h2 := encN_le [i.seq]
  simp only [inB, List.length_append, i.prev.tx.len, List.length_cons, List.length_nil] at *; omega
theorem outB_le (o : Out) : (outB o).length ≤ 95 := by
  have h1 := encN_le [o.value]; have h2 := encN_le o.script.ints
  simp only [outB, List.length_append, o.script.hash.len, List.length_cons, List.length_nil, Script.ints] at *; omega
theorem heldR_upd {w w' : World} {S : Nat → Prop} (h : Upd w w' S) {b o q n : Nat} {cs : Array Value} {v : Value} (hr : row? w ⟨b, q, none⟩ n = some cs ∧ w.cell? ⟨b, o, none⟩ = some v) (hb : b < w.heap.size) (hs : ¬ S b) : row? w' ⟨b, q, none⟩ n = some cs ∧ w'.cell? ⟨b, o, none⟩ = some v :=
  ⟨(h.row hb hs _ _).trans hr.1, (h.cell hb hs o).trans hr.2⟩
theorem heldR_alloc {w : World} {b o q n : Nat} {cs : Array Value} {v : Value} (hr : row? w ⟨b, q, none⟩ n = some cs ∧ w.cell? ⟨b, o, none⟩ = some v) (hb : b < w.heap.size) (x : Obj) : row? (w.alloc x) ⟨b, q, none⟩ n = some cs ∧ (w.alloc x).cell? ⟨b, o, none⟩ = some v :=
  heldR_upd (S := fun _ => False) (Upd.of_below ((Below.refl w.heap.size w).alloc (Nat.le_refl _) x) _) hr hb (fun h => h)
theorem ink_ge {w : World} {p : Nat} {s : Sl} {l : List UInt8} {B : Nat} (h : inkAt w p s l B) {k : Nat} (hk : inkFoot p s k) : B ≤ k := by
  rcases hk with rfl | hk
  · exact h.1
  · exact (h.2.2.1.lt k hk).1
theorem inkN_at (p : Nat) (s : Sl) (l : List UInt8) (m c : Nat) (xs : List Int) (t : TypeId) (W : World) (B : Nat) (hm : m = W.heap.size) (hB : B ≤ W.heap.size) (hk : inkAt W p s l B) (hx : ∀ x ∈ xs, OkNum x) (hlen : l.length + 9 * xs.length ≤ 140737488355328) :
    Calls Tryz.prog 126 #[.pointer (some ⟨p, 0, none⟩), .slice (some ⟨m, 0, none⟩) xs.length c] (W.alloc (.cells (xs.map (Value.int .i64)).toArray t (0, 0))) (RetInk W p s (l ++ encN xs) B) := by
  subst hm; exact inkN_new p s l c xs t W B hB hk hx hlen
set_option maxRecDepth 100000 in
set_option maxHeartbeats 1000000 in
theorem body_tx (v : TxV) (t : Tx) (w : World) (ht : isTx w v t w.heap.size) (h1 : t.ins.length ≤ 1000000) (h2 : t.outs.length ≤ 1000000) (hn1 : ∀ i ∈ t.ins, inNum i) (hn2 : ∀ o ∈ t.outs, outNum o) (hl : OkNum t.lock) :
    Calls Tryz.prog 150 #[.agg v.arr] w fun e w' => ∃ p s, e = .returned (.pointer (some ⟨p, 0, none⟩)) ∧ inkAt w' p s (bodyS t) w.heap.size ∧ Below w.heap.size w w' := by
  obtain ⟨⟨hm1, hcc1, hr1⟩, ⟨hm2, hcc2, hr2⟩, hlk⟩ := ht
  obtain ⟨⟨ia, il, ic⟩, ⟨oa, ol, oc⟩, lk⟩ := v
  simp only at hm1 hcc1 hr1 hm2 hcc2 hr2 hlk
  subst hm1 hm2 hlk
  go_enter Tryz.func150, Tryz.ntmps150
  go_wp2_with fail
  obtain ⟨B, hB⟩ : ∃ B, B = w.heap.size := ⟨_, rfl⟩
  obtain ⟨W, hW⟩ : ∃ W, W = (w.alloc (.cells (TxV.mk ⟨ia, t.ins.length, ic⟩ ⟨oa, t.outs.length, oc⟩ t.lock).arr 72)).alloc (.cells InkV.zero.arr 221) := ⟨_, rfl⟩
  have hbW : Below w.heap.size w W := hW ▸ ((Below.refl w.heap.size w).alloc (Nat.le_refl _) _).alloc (by simp) _
  have hWs : W.heap.size = w.heap.size + 1 + 1 := by rw [hW]; simp
  have hWp : W.heap[w.heap.size + 1]? = some (.cells (InkV.mk ⟨none, 0, 0⟩ false).arr 221 (0, 0)) := by
    rw [hW]; show ((w.heap.push _).push _)[w.heap.size + 1]? = _
    have : w.heap.size + 1 = (w.heap.push (.cells (TxV.mk ⟨ia, t.ins.length, ic⟩ ⟨oa, t.outs.length, oc⟩ t.lock).arr 72)).size := by simp
    rw [this, Array.getElem?_push_size]; rfl
  have hi0 : inkAt W (w.heap.size + 1) ⟨none, 0, 0⟩ [] (w.heap.size + 1) := ⟨by omega, hWp, World.ownsRow_nil _ _ _ _, by simp [Sl.v, Value.ownBlock]⟩
  have hbox : row? W ⟨w.heap.size, 0, none⟩ 3 = some (TxV.mk ⟨ia, t.ins.length, ic⟩ ⟨oa, t.outs.length, oc⟩ t.lock).arr := by
    rw [hW, row?_alloc_past _ _ _ _ (by simp), row?_alloc_at _ _ _ _ _ _ _ rfl]; simp
  rw [← hW]
  refine (inkN_at (w.heap.size + 1) ⟨none, 0, 0⟩ [] _ 1 [(t.ins.length : Int)] 3 W (w.heap.size + 1) hWs.symm (by omega) hi0 (by simp [OkNum]; omega) (by simp)).mono ?_
  rintro e w1 ⟨s1, rfl, hk1, hu1, hf1⟩
  clear hW
  have hbw1 : Below (w.heap.size + 1) W w1 := hu1.below (by omega) (fun k hk => by rcases hk with rfl | hk; omega; simp [Sl.v, Value.ownBlock] at hk)
  have hcl : ∀ X, Below (w.heap.size + 1) W X → X.cell? ⟨w.heap.size, 0, none⟩ = some (.slice ia t.ins.length ic) ∧ X.cell? ⟨w.heap.size, 1, none⟩ = some (.slice oa t.outs.length oc) ∧ X.cell? ⟨w.heap.size, 2, none⟩ = some (.int .i64 t.lock) := by
    intro X hX
    have c0 := row?_cellAt hbox 0 (by omega)
    have c1 := row?_cellAt hbox 1 (by omega)
    have c2 := row?_cellAt hbox 2 (by omega)
    rw [TxV.arr_0, Nat.add_zero] at c0
    rw [TxV.arr_1, Nat.zero_add] at c1
    rw [TxV.arr_2, Nat.zero_add] at c2
    exact ⟨(hX.cell (p := ⟨w.heap.size, 0, none⟩) (by simp)).trans c0, (hX.cell (p := ⟨w.heap.size, 1, none⟩) (by simp)).trans c1, (hX.cell (p := ⟨w.heap.size, 2, none⟩) (by simp)).trans c2⟩
  have HCL := Lib.hid hcl
  obtain ⟨c10, c11, c12⟩ := hcl w1 hbw1
  have hz1 : w.heap.size + 1 + 1 ≤ w1.heap.size := by have := hu1.size; omega
  clear hcl hbox hWp hi0
  go_wp2_with fail
  go_loopw [17] (fun i wr => ∃ (k : Nat) (s' : Sl), k ≤ t.ins.length ∧ i = .int .i64 k ∧ inkAt wr (w.heap.size + 1) s' (encN [(t.ins.length : Int)] ++ (t.ins.take k).flatMap inB) (w.heap.size + 1) ∧ Below (w.heap.size + 1) W wr) (fun i _ => t.ins.length - (intOf i).toNat)
  case atStart => exact ⟨0, s1, Nat.zero_le _, rfl, by simpa using hk1, hbw1⟩
  case round =>
    obtain ⟨k, s', hkl, rfl, hik, hbr⟩ := hrel
    have hzr : w.heap.size + 1 + 1 ≤ wr.heap.size := by have := hbr.size; omega
    by_cases hlt : k < t.ins.length
    · obtain ⟨b0, off, rfl, hb0, hr⟩ := (hr1.below (hbW.trans (hbr.mono (by omega)))).at hlt
      go_wp2_with fail
      obtain ⟨V, hV⟩ : ∃ V, V = wr.alloc (.cells t.ins[k].arr 68) := ⟨_, rfl⟩
      rw [← hV]
      have hbV : Below wr.heap.size wr V := hV ▸ (Below.refl wr.heap.size wr).alloc (Nat.le_refl _) _
      have hi1 : inkAt V (w.heap.size + 1) s' (encN [(t.ins.length : Int)] ++ (t.ins.take k).flatMap inB) (w.heap.size + 1) := hV ▸ hik.alloc _
      have hi2 := (hi1.drew).alloc (.cells #[.int .i64 t.ins[k].seq] 3)
      have hr0 : row? V ⟨wr.heap.size, 0, none⟩ 37 = some t.ins[k].arr := by rw [hV, row?_alloc_at _ _ _ _ _ _ _ rfl]; simp
      have hS0 : row? V.drew ⟨wr.heap.size, 0, none⟩ 33 = some t.ins[k].prev.arr ∧ V.drew.cell? ⟨wr.heap.size, 33, none⟩ = some (.int .i64 t.ins[k].seq) :=
        ⟨(row?_part hr0 0 33 (by omega)).trans (by rw [Nat.zero_add, In.ext_0]), by have := row?_cellAt hr0 33 (by omega); rw [In.arr_33, Nat.zero_add] at this; exact this⟩
      have hH : wr.heap.size < V.heap.size := by rw [hV]; simp
      have hHs : ¬ inkFoot (w.heap.size + 1) s' wr.heap.size := fun h => Nat.lt_irrefl _ (ink_lt hik h)
      have hBV : w.heap.size + 1 ≤ V.heap.size := by have := hbV.size; omega
      obtain ⟨hnp, hns⟩ := hn1 _ (List.getElem_mem hlt)
      have hNum : ∀ x ∈ [t.ins[k].seq], OkNum x := by simpa using hns
      obtain ⟨L, hL⟩ : ∃ L, L = encN [(t.ins.length : Int)] ++ (t.ins.take k).flatMap inB := ⟨_, rfl⟩
      rw [← hL] at hi1 hi2
      have hLl : L.length ≤ 50000009 := by
        have a1 := encN_le [(t.ins.length : Int)]
        have a2 := flat_le inB 50 inB_le (t.ins.take k)
        rw [hL]; simp only [List.length_append, List.length_cons, List.length_nil, List.length_take] at *; omega
      have hen := encN_le [t.ins[k].prev.n]
      have hLl2 : (L ++ t.ins[k].prev.tx.l ++ encN [t.ins[k].prev.n]).length + 9 * [t.ins[k].seq].length ≤ 140737488355328 := by
        simp only [List.length_append, t.ins[k].prev.tx.len, List.length_cons, List.length_nil] at *; omega
      have hLl1 : L.length + 41 ≤ 140737488355328 := by omega
      have HL := Lib.hid hL
      clear hr0 hV hL hik hen
      have hS2 := heldR_alloc hS0 hH (.cells #[.int .i64 t.ins[k].seq] 3 (0, 0))
      have hz2 : wr.heap.size < (V.drew.alloc (.cells #[.int .i64 t.ins[k].seq] 3 (0, 0))).heap.size := by simp; omega
      have hB2 : w.heap.size + 1 ≤ (V.drew.alloc (.cells #[.int .i64 t.ins[k].seq] 3 (0, 0))).heap.size := by simp; omega
      have hc2 : ∀ j (h : j < [t.ins[k].seq].length), (V.drew.alloc (.cells #[.int .i64 t.ins[k].seq] 3 (0, 0))).cell? ⟨V.heap.size, 0 + j, none⟩ = some (.int .i64 [t.ins[k].seq][j]) := by
        intro j hj
        have : j = 0 := by simpa using hj
        subst this
        exact (cells_known (w := V.drew.alloc (.cells #[.int .i64 t.ins[k].seq] 3 (0, 0))) (b := V.heap.size) (by show (V.heap.push _)[V.heap.size]? = _; rw [Array.getElem?_push_size])).1 0
      have hm2 : V.heap.size < (V.drew.alloc (.cells #[.int .i64 t.ins[k].seq] 3 (0, 0))).heap.size := by simp
      have hn2 : ¬ inkFoot (w.heap.size + 1) s' V.heap.size := fun h => Nat.lt_irrefl _ (ink_lt hi1 h)
      go_region_held3 (fun X : World => row? X ⟨wr.heap.size, 0, none⟩ 33 = some t.ins[k].prev.arr ∧ X.cell? ⟨wr.heap.size, 33, none⟩ = some (.int .i64 t.ins[k].seq)) (first | exact hS0 | exact hS1 | exact hS2 | exact heldR_alloc hS1 hzA _)
        (first | (go_at_call 191; refine (inkP _ s' L t.ins[k].prev V.drew _ hBV hi1 hnp hLl1).mono ?_; rintro e wA ⟨sA, rfl, hkA, huA, hfA⟩; have hBA : w.heap.size + 1 ≤ wA.heap.size := Nat.le_trans hBV huA.size; have hzA : wr.heap.size < wA.heap.size := Nat.lt_of_lt_of_le hH huA.size; have hS1 := heldR_upd huA hS0 hH hHs) | (go_at_call 126; refine (inkN_new _ sA (L ++ t.ins[k].prev.tx.l ++ encN [t.ins[k].prev.n]) 1 [t.ins[k].seq] 3 wA _ hBA hkA hNum hLl2).mono ?_; rintro e w2 hret; obtain ⟨s2, rfl, hk3, hu3, hf3⟩ := RetInk.trans huA hfA hret; have hS1 : row? w2 ⟨wr.heap.size, 0, none⟩ 33 = some t.ins[k].prev.arr ∧ w2.cell? ⟨wr.heap.size, 33, none⟩ = some (.int .i64 t.ins[k].seq) := heldR_upd hu3 hS0 hH hHs) | (go_at_call 191; refine (inkP _ s' L t.ins[k].prev (V.drew.alloc (.cells #[.int .i64 t.ins[k].seq] 3 (0, 0))) _ hB2 hi2 hnp hLl1).mono ?_; rintro e wB ⟨sB, rfl, hkB, huB, hfB⟩; have hS1 := heldR_upd huB hS2 hz2 hHs; have hBB : w.heap.size + 1 ≤ wB.heap.size := Nat.le_trans hB2 huB.size) | (go_at_call 126; refine (inkN _ sB (L ++ t.ins[k].prev.tx.l ++ encN [t.ins[k].prev.n]) V.heap.size 0 1 [t.ins[k].seq] wB _ hBB hkB hNum hLl2 (Nat.lt_of_lt_of_le hm2 huB.size) (fun h => (hfB _ h).elim hn2 (fun h => Nat.lt_irrefl _ (Nat.lt_of_lt_of_le hm2 h))) (fun j hj => (huB.cell hm2 hn2 _).trans (hc2 j hj))).mono ?_; rintro e w2 hret; obtain ⟨s2, rfl, hk3, hu3, hf3⟩ := RetInk.below (w := V.drew) ((Below.refl V.heap.size V.drew).alloc (Nat.le_refl _) _) (RetInk.trans huB hfB hret); have hS1 : row? w2 ⟨wr.heap.size, 0, none⟩ 33 = some t.ins[k].prev.arr ∧ w2.cell? ⟨wr.heap.size, 33, none⟩ = some (.int .i64 t.ins[k].seq) := heldR_upd hu3 hS0 hH hHs))
      all_goals
        have hb3 : Below (w.heap.size + 1) W w2 := hbr.trans ((hbV.mono (by omega)).trans ((Below.refl _ V).drew.trans (hu3.below hBV (fun k hk => ink_ge hi1 hk))))
        have hst : L ++ t.ins[k].prev.tx.l ++ encN [t.ins[k].prev.n] ++ encN [t.ins[k].seq] = encN [(t.ins.length : Int)] ++ (t.ins.take (k + 1)).flatMap inB := by
          rw [HL.out, flat_take inB hlt]; simp only [inB, List.append_assoc]
        rw [hst] at hk3
        clear hst
        go_wp2_with fail
        go_roundw
      all_goals first | exact ⟨k + 1, s2, by omega, by go_num, hk3, hb3⟩ | (simp [intOf]; omega)
    · have hke : k = t.ins.length := by omega
      subst hke
      rw [List.take_length] at hik
      obtain ⟨L1, hL1⟩ : ∃ L, L = encN [(t.ins.length : Int)] ++ t.ins.flatMap inB := ⟨_, rfl⟩
      rw [← hL1] at hik
      have hLl1 : L1.length ≤ 50000009 := by
        have a1 := encN_le [(t.ins.length : Int)]
        have a2 := flat_le inB 50 inB_le t.ins
        rw [hL1]; simp only [List.length_append, List.length_cons, List.length_nil] at *; omega
      have HL1 := Lib.hid hL1
      clear hL1
      have hcr := HCL.out wr hbr
      obtain ⟨cr0, cr1, cr2⟩ := hcr
      go_wp2_with fail
      refine (inkN_at (w.heap.size + 1) s' L1 _ 1 [(t.outs.length : Int)] 3 wr (w.heap.size + 1) rfl (by omega) hik (by simp [OkNum]; omega) (by simp; omega)).mono ?_
      rintro e w4 ⟨s4, rfl, hk4, hu4, hf4⟩
      have hb4 : Below (w.heap.size + 1) W w4 := hbr.trans (hu4.below (by omega) (fun k hk => ink_ge hik hk))
      have hz4 : w.heap.size + 1 + 1 ≤ w4.heap.size := by have := hb4.size; omega
      obtain ⟨c40, c41, c42⟩ := HCL.out w4 hb4
      go_wp2_with fail
      go_loopw [39] (fun i wr => ∃ (k : Nat) (s' : Sl), k ≤ t.outs.length ∧ i = .int .i64 k ∧ inkAt wr (w.heap.size + 1) s' (L1 ++ encN [(t.outs.length : Int)] ++ (t.outs.take k).flatMap outB) (w.heap.size + 1) ∧ Below (w.heap.size + 1) W wr) (fun i _ => t.outs.length - (intOf i).toNat)
      case atStart => exact ⟨0, s4, Nat.zero_le _, rfl, by simpa using hk4, hb4⟩
      case round =>
        clear hik hbr cr0 cr1 cr2 hk4 hu4 hf4 hb4 c40 c41 c42 hzr hz4 hlt hkl
        obtain ⟨k, s', hkl, rfl, hik, hbr⟩ := hrel
        have hzr : w.heap.size + 1 + 1 ≤ wr.heap.size := by have := hbr.size; omega
        by_cases hlt : k < t.outs.length
        · obtain ⟨b0, off, rfl, hb0, hr⟩ := (hr2.below (hbW.trans (hbr.mono (by omega)))).at hlt
          go_wp2_with fail
          obtain ⟨V, hV⟩ : ∃ V, V = wr.alloc (.cells t.outs[k].arr 196) := ⟨_, rfl⟩
          rw [← hV]
          have hbV : Below wr.heap.size wr V := hV ▸ (Below.refl wr.heap.size wr).alloc (Nat.le_refl _) _
          have hi1 : inkAt V (w.heap.size + 1) s' (L1 ++ encN [(t.outs.length : Int)] ++ (t.outs.take k).flatMap outB) (w.heap.size + 1) := hV ▸ hik.alloc _
          have hr0 : row? V ⟨wr.heap.size, 0, none⟩ 39 = some t.outs[k].arr := by rw [hV, row?_alloc_at _ _ _ _ _ _ _ rfl]; simp
          have hS0 : row? V.drew ⟨wr.heap.size, 1, none⟩ 38 = some t.outs[k].script.arr ∧ V.drew.cell? ⟨wr.heap.size, 0, none⟩ = some (.int .i64 t.outs[k].value) :=
            ⟨(row?_part hr0 1 38 (by omega)).trans (by rw [Out.ext_1]), by have := row?_cellAt hr0 0 (by omega); rw [Out.arr_0, Nat.zero_add] at this; exact this⟩
          have hH : wr.heap.size < V.heap.size := by rw [hV]; simp
          have hHs : ¬ inkFoot (w.heap.size + 1) s' wr.heap.size := fun h => Nat.lt_irrefl _ (ink_lt hik h)
          have hBV : w.heap.size + 1 ≤ V.heap.size := by have := hbV.size; omega
          obtain ⟨hnv, hns⟩ := hn2 _ (List.getElem_mem hlt)
          have hNum : ∀ x ∈ [t.outs[k].value], OkNum x := by simpa using hnv
          obtain ⟨L, hL⟩ : ∃ L, L = L1 ++ encN [(t.outs.length : Int)] ++ (t.outs.take k).flatMap outB := ⟨_, rfl⟩
          rw [← hL] at hi1
          have hLl : L.length ≤ 150000018 := by
            have a1 := encN_le [(t.outs.length : Int)]
            have a2 := flat_le outB 95 outB_le (t.outs.take k)
            rw [hL]; simp only [List.length_append, List.length_cons, List.length_nil, List.length_take] at *; omega
          have hen := encN_le [t.outs[k].value]
          have hLn1 : L.length + 9 * [t.outs[k].value].length ≤ 140737488355328 := by simp only [List.length_cons, List.length_nil]; omega
          have hLn2 : (L ++ encN [t.outs[k].value]).length + 86 ≤ 140737488355328 := by
            simp only [List.length_append, List.length_cons, List.length_nil] at *; omega
          have HL := Lib.hid hL
          clear hr0 hV hL hik hen
          have hS2 := heldR_alloc hS0 hH (.cells #[.int .i64 t.outs[k].value] 3 (0, 0))
          go_region_held3 (fun X : World => row? X ⟨wr.heap.size, 1, none⟩ 38 = some t.outs[k].script.arr ∧ X.cell? ⟨wr.heap.size, 0, none⟩ = some (.int .i64 t.outs[k].value)) (first | exact hS0 | exact hS1 | exact hS2)
            (first | (go_at_call 126; refine (inkN_new _ s' L 1 [t.outs[k].value] 3 V.drew _ hBV hi1.drew hNum hLn1).mono ?_; rintro e wA ⟨sA, rfl, hkA, huA, hfA⟩; have hBA : w.heap.size + 1 ≤ wA.heap.size := Nat.le_trans hBV huA.size; have hS1 := heldR_upd huA hS0 hH hHs) | (go_at_call 192; refine (inkS _ sA (L ++ encN [t.outs[k].value]) t.outs[k].script wA _ hBA hkA hns hLn2).mono ?_; rintro e w2 hret; obtain ⟨s2, rfl, hk3, hu3, hf3⟩ := RetInk.trans huA hfA hret; have hS1 : row? w2 ⟨wr.heap.size, 1, none⟩ 38 = some t.outs[k].script.arr ∧ w2.cell? ⟨wr.heap.size, 0, none⟩ = some (.int .i64 t.outs[k].value) := heldR_upd hu3 hS0 hH hHs))
          have hb3 : Below (w.heap.size + 1) W w2 := hbr.trans ((hbV.mono (by omega)).trans ((Below.refl _ V).drew.trans (hu3.below hBV (fun k hk => ink_ge hi1 hk))))
          have hst : L ++ encN [t.outs[k].value] ++ encN t.outs[k].script.ints ++ t.outs[k].script.hash.l = L1 ++ encN [(t.outs.length : Int)] ++ (t.outs.take (k + 1)).flatMap outB := by
            rw [HL.out, flat_take outB hlt]; simp only [outB, List.append_assoc]
          rw [hst] at hk3
          clear hst
          go_wp2_with fail
          go_roundw
          all_goals first | exact ⟨k + 1, s2, by omega, by go_num, hk3, hb3⟩ | (simp [intOf]; omega)
        · have hke : k = t.outs.length := by omega
          subst hke
          rw [List.take_length] at hik
          obtain ⟨L2, hL2⟩ : ∃ L, L = L1 ++ encN [(t.outs.length : Int)] ++ t.outs.flatMap outB := ⟨_, rfl⟩
          rw [← hL2] at hik
          have hLl2 : L2.length ≤ 150000018 := by
            have a1 := encN_le [(t.outs.length : Int)]
            have a2 := flat_le outB 95 outB_le t.outs
            rw [hL2]; simp only [List.length_append, List.length_cons, List.length_nil] at *; omega
          have hfin : L2 ++ encN [t.lock] = bodyS t := by rw [hL2, HL1.out]; rfl
          have HF := Lib.hid hfin
          clear hL2 hfin
          obtain ⟨cr0, cr1, cr2⟩ := HCL.out wr hbr
          go_wp2_with fail
          refine (inkN_at (w.heap.size + 1) s' L2 _ 1 [t.lock] 3 wr (w.heap.size + 1) rfl (by omega) hik (by simpa using hl) (by simp; omega)).mono ?_
          rintro e w5 ⟨s5, rfl, hk5, hu5, hf5⟩
          go_wp2_with fail
          go_ret
          refine ⟨w.heap.size + 1, s5, rfl, ?_, hbW.trans ((hbr.mono (by omega)).trans (hu5.below (by omega) (fun k hk => by have := ink_ge hik hk; omega)))⟩
          rw [HF.out] at hk5
          exact ⟨by have := hk5.1; omega, hk5.2.1, hk5.2.2.1.mono (by omega), hk5.2.2.2⟩
end Go.Proofs.YtlkojkjeklblkaaGreat
