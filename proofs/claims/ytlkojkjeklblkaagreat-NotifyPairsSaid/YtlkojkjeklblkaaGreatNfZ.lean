/- Package coraclelaw12: are asks few? A registration turned into the program's. -/
import Derived.Test.YtlkojkjeklblkaaGreatNfX
import Derived.Test.YtlkojkjeklblkaaGreatNfW
import Derived.Test.YtlkojkjeklblkaaGreatLightA
set_option linter.unusedSimpArgs false
set_option linter.unusedVariables false
namespace Go.Proofs.YtlkojkjeklblkaaGreat
open Go.RowKit Go.MapKept
def toReg (x : DReg) : Reg := ⟨x.kind, x.tx, x.depth, x.point, x.height⟩
set_option maxRecDepth 100000 in
set_option maxHeartbeats 1000000 in
theorem reg_nf (x : DReg) (w : World) : Calls Tryz.prog 23 #[.agg x.arr] w fun e w' => e = .returned (.agg (toReg x).arr) ∧ Below w.heap.size w w' := by
  obtain ⟨W, hW⟩ : ∃ W, W = (w.alloc (.cells x.arr 42)).alloc (.cells Reg.zero.arr 57) := ⟨_, rfl⟩
  have hbW : Below w.heap.size w W := hW ▸ ((Below.refl _ _).alloc (Nat.le_refl _) _).alloc (by simp) _
  have hz : W.heap.size = w.heap.size + 2 := by rw [hW]; simp
  have g1 : W.heap[w.heap.size]? = some (.cells x.arr 42 (0, 0)) := by rw [hW]; exact (heap_alloc_old _ _ (by simp)).trans (heap_alloc_new w _)
  have g2 : W.heap[w.heap.size + 1]? = some (.cells Reg.zero.arr 57 (0, 0)) := by rw [hW]; exact heap_second _ _ _ _
  have c0 : W.cell? ⟨w.heap.size, 0, none⟩ = some (.int .i64 x.kind) := by rw [(cells_known g1).1]; exact DReg.arr_0 x
  have c2 : W.cell? ⟨w.heap.size, 33, none⟩ = some (.int .i64 x.depth) := by rw [(cells_known g1).1]; exact DReg.arr_33 x
  have c4 : W.cell? ⟨w.heap.size, 67, none⟩ = some (.int .i64 x.height) := by rw [(cells_known g1).1]; exact DReg.arr_67 x
  have r1 : row? W ⟨w.heap.size, 1, none⟩ 32 = some x.tx.arr := by rw [row_part g1 1 32 (by simp)]; exact congrArg some (DReg.ext_1 x)
  have r3 : row? W ⟨w.heap.size, 34, none⟩ 33 = some x.point.arr := by rw [row_part g1 34 33 (by simp)]; exact congrArg some (DReg.ext_34 x)
  obtain ⟨X, hst, hX, hu⟩ := store_whole (P := Tryz.prog) (t := 57) size_Reg W (w.heap.size + 1) (Reg.mk x.kind x.tx x.depth x.point x.height).arr Reg.zero.arr (by simp) (fun u hu => one_Reg _ u hu) (by simp) g2
  have HW := Lib.hid hW
  have HX := Lib.hid (And.intro hX (hbW.trans ((hu.below (show w.heap.size ≤ W.heap.size by omega) (fun k e => by have e2 : k = w.heap.size + 1 := e; omega)))))
  clear hW hbW hz g1 g2 hX hu
  go_enter Tryz.func23, Tryz.ntmps23
  go_upto_region 1 with fail
  rw [← HW.out]
  go_wp2_with fail
  refine bodyPost_ret (results_cell_row rfl _ _ (w.heap.size + 1) 57 (Reg.mk x.kind x.tx x.depth x.point x.height).arr (0, 0) _ rfl HX.out.1 Tryz.underlying57 rfl (by rw [size_Reg]; simp)) rfl ⟨rfl, HX.out.2⟩
theorem txsAt_in {w w' : World} {Z : Nat → Prop} {s : Sl} {vs : List TxV} {l : List Tx} (h : txsIn w Z s vs l) (hb : Below w.heap.size w w') : txsAt w' s vs l := by
  have h2 : txsAt w s vs l := ⟨h.1.isSl, h.2.1, fun k h1 h2 => (h.2.2 k h1 h2).isTx⟩
  exact h2.below hb
/-- Asks are few, and light. -/
structure FewOk (L : List (Ask × List Tx)) : Prop where
  len : L.length ≤ 60
  txs : ∀ x ∈ L, x.2.length ≤ 8
def FewPost (w : World) (L : List (Ask × List Tx)) (e : Ending) (w' : World) : Prop := ∃ b, e = .returned (.bool b) ∧ (b = true → FewOk L) ∧ Below w.heap.size w w'
set_option maxRecDepth 100000 in
set_option maxHeartbeats 1000000 in
theorem few_nf (s : Sl) (L : List (Ask × List Tx)) (w : World) (h : AsksAt w s L) (hl : L.length ≤ 9223372036854775807) :
    Calls Tryz.prog 13 #[.slice s.a s.n s.c] w (FewPost w L) := by
  obtain ⟨sa, sn, sc⟩ := s
  have hn : sn = L.length := by have := h.rows.1; rw [List.length_map] at this; exact this
  subst hn
  have HB := Lib.hid h
  clear h
  go_enter Tryz.func13, Tryz.ntmps13
  go_wp2_with fail
  go_loopw [3, 4] (fun n i wr => ∃ k m : Nat, k ≤ L.length ∧ k ≤ 60 ∧ i = .int .i64 k ∧ n = .int .i64 m ∧ m ≤ 8 * k ∧ Hid (∀ j (hj : j < L.length), j < k → (L[j].2).length ≤ 8) ∧ Below w.heap.size w wr) (fun _ i _ => L.length - (intOf i).toNat)
  case atStart => exact ⟨0, 0, Nat.zero_le _, by omega, rfl, rfl, by omega, fun j _ h => absurd h (by omega), Below.refl _ _⟩
  case round =>
    obtain ⟨k, m, hk, hk6, rfl, rfl, hm, hall, hbr⟩ := hrel
    by_cases hlt : k < L.length ∧ k < 60
    · have d1 : decide ((k : Int) < (L.length : Int)) = true := decide_eq_true (by omega)
      have d2 : decide ((k : Int) < 60) = true := decide_eq_true (by omega)
      obtain ⟨b0, off, e0, _, hb0, hr⟩ := HB.out.rows.2.2.2 (by intro e; have := congrArg List.length e; simp at this; rw [this] at hlt; simp at hlt)
      simp only at e0
      subst e0
      have hrk := hr k (by rw [List.length_map]; exact hlt.1)
      rw [List.getElem_map] at hrk
      obtain ⟨⟨x, t⟩, hx⟩ : ∃ x, x = L[k] := ⟨_, rfl⟩
      rw [← hx] at hrk
      simp only at hrk
      obtain ⟨vs, hvs⟩ := HB.out.txs L[k] (List.getElem_mem hlt.1)
      rw [← hx] at hvs
      simp only at hvs
      have c70 : wr.cell? ⟨b0, off + k * 71 + 70, none⟩ = some (.slice x.txs.a x.txs.n x.txs.c) := by
        have := row?_cellAt ((row?_below hbr (a := ⟨b0, off + k * 71, none⟩) hb0 71).trans hrk) 70 (by decide)
        rw [Ask.arr_70] at this; exact this
      have hxn : x.txs.n = t.length := by rw [hvs.1.1]; exact hvs.2.1
      have hli := all_light x.txs vs t 8 wr (txsAt_in hvs hbr) (by decide)
      obtain ⟨bb, hbb⟩ : ∃ b, b = allLightS t 8 := ⟨_, rfl⟩
      rw [← hbb, hxn] at hli
      have hbt : bb = true → t.length ≤ 8 := by
        intro e
        rw [e] at hbb
        unfold allLightS at hbb
        have := hbb.symm
        rw [Bool.and_eq_true] at this
        have := of_decide_eq_true this.1
        omega
      have HT := Lib.hid hbt
      have HLI := Lib.hid hli
      have HX := Lib.hid hx
      have d3 : (0 : Int) ≤ (k : Int) := by omega
      have d4 : (k : Int) < (L.length : Int) := by omega
      clear hr hrk hvs hbt hbb hx hli
      cases bb with
      | false =>
        go_wp2_with fail
        refine HLI.out.mono ?_
        rintro e w2 ⟨rfl, hb2⟩
        go_wp2_with fail
        go_ret
        exact ⟨false, rfl, fun h => (by cases h), hbr.trans (hb2.mono hbr.size)⟩
      | true =>
        have ht8 := HT.out rfl
        go_wp2_with fail
        refine HLI.out.mono ?_
        rintro e w2 ⟨rfl, hb2⟩
        have c71 : w2.cell? ⟨b0, off + k * 71 + 70, none⟩ = some (.slice x.txs.a t.length x.txs.c) := by
          have := hb2.cell (p := ⟨b0, off + k * 71 + 70, none⟩) (Nat.lt_of_lt_of_le hb0 hbr.size)
          rw [this, c70, hxn]
        clear HLI
        go_wp2_with fail
        refine ⟨⟨k + 1, m + t.length, by omega, by omega, by go_num, by go_num, by omega, fun j hj h => ?_, hbr.trans (hb2.mono hbr.size)⟩, by simp [intOf]; omega⟩
        by_cases e : j = k
        · subst e; rw [← HX.out]; exact ht8
        · exact hall.out j hj (by omega)
    · by_cases hk2 : k < L.length
      · have hk60 : k = 60 := by omega
        have d1 : decide ((k : Int) < (L.length : Int)) = true := decide_eq_true (by omega)
        have d2 : decide ((k : Int) < 60) = false := decide_eq_false (by omega)
        have d3 : decide ((L.length : Int) ≤ 60) = false := decide_eq_false (by omega)
        clear hk60 hlt
        go_wp2_with fail
        go_ret
        exact ⟨_, rfl, fun h => (by cases h), hbr⟩
      · obtain rfl : k = L.length := by omega
        have d1 : decide ((L.length : Int) < (L.length : Int)) = false := decide_eq_false (by omega)
        have HK := Lib.hid hk6
        have d3 : decide ((L.length : Int) ≤ 60) = true := decide_eq_true (by omega)
        go_wp2_with fail
        go_ret
        exact ⟨_, rfl, fun _ => ⟨HK.out, fun x hx => by obtain ⟨j, hj, rfl⟩ := List.mem_iff_getElem.1 hx; exact hall.out j hj hj⟩, hbr⟩
end Go.Proofs.YtlkojkjeklblkaaGreat
