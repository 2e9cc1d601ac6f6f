/- A record's sum; a record as it stands in the file. -/
import Derived.Test.YtkiindgcbpkddaaWalC
import Derived.Test.YtkiindgcbpkddaaSlc
set_option linter.unusedSimpArgs false
set_option linter.unusedVariables false
namespace Go.Proofs.Ytkiindgcbpkddaa
open Go.RowKit
set_option maxRecDepth 100000 in
set_option maxHeartbeats 1000000 in
theorem sum_wal (v : Sl) (l : List UInt8) (w : World) (h : bytesAt w v l w.heap.size) (hml : l.length ≤ 100000000) : Calls Try.prog 142 #[.slice v.a v.n v.c] w fun e w' => ∃ s : Sl, e = .returned (.slice s.a s.n s.c) ∧ bytesZ w' (fun k => w.heap.size ≤ k) s (sumB l) ∧ Below w.heap.size w w' := by
  have hn : v.n = l.length := h.1
  have hp := put_num (l.length : Int) ⟨by omega, by omega⟩ w
  rw [Int.toNat_natCast] at hp
  rw [hn]
  have hput := putS_le l.length
  go_enter Try.func142, Try.ntmps142
  go_wp2_with (go_at_call 145; refine hp.mono ?_; rintro e w1 ⟨a1, c1, rfl, ho1, hb1⟩)
  have hp1 := row_bytes ho1
  have HP1 := Lib.hid hp1
  clear hp hp1 ho1
  obtain ⟨W, hW⟩ : ∃ W, W = w1.alloc (.cells #[.slice (some a1) (putS l.length).length c1, .slice v.a l.length v.c] 102) := ⟨_, rfl⟩
  rw [← hW]
  have hbW : Below w1.heap.size w1 W := hW ▸ (Below.refl _ _).alloc (Nat.le_refl _) _
  have hblk : W.heap[w1.heap.size]? = some (.cells #[.slice (some a1) (putS l.length).length c1, .slice v.a l.length v.c] 102 (0, 0)) := hW ▸ heap_alloc_new w1 _
  have hsum := sum_sha (some ⟨w1.heap.size, 0, none⟩) 2 [(⟨some a1, (putS l.length).length, c1⟩, putS l.length), (⟨v.a, l.length, v.c⟩, l)] W (by simp)
    (fun _ => ⟨w1.heap.size, 0, rfl, (cells_known hblk).2.2, fun k hk => by
      rw [(cells_known hblk).1, Nat.zero_add]
      have hk2 : k < 2 := hk
      match k, hk2 with
      | 0, _ => rfl
      | 1, _ => rfl⟩)
    (fun q hq => by
      simp only [List.mem_cons, List.not_mem_nil, or_false] at hq
      rcases hq with rfl | rfl
      · exact (HP1.out.keep hbW).at
      · have h2 := ((h.below hb1).mono hb1.size).below hbW
        exact ⟨rfl, (h2.mono hbW.size).2⟩)
    (by simp; omega)
  simp only [List.flatMap_cons, List.flatMap_nil, List.append_nil, List.length_cons, List.length_nil, Nat.zero_add, Nat.reduceAdd] at hsum
  obtain ⟨D, hD⟩ : ∃ D, D = putS l.length ++ l := ⟨_, rfl⟩
  rw [← hD] at hsum
  have hbw : Below w.heap.size w W := hb1.trans (hbW.mono hb1.size)
  have HD := Lib.hid hD
  have HB := Lib.hid hbw
  clear hW hbW hblk hD h hbw hb1 HP1
  go_wp2_with fail
  refine hsum.mono ?_
  rintro e Y ⟨rfl, hbY⟩
  have hb2 := HB.out.trans (hbY.mono HB.out.size)
  obtain ⟨z, hz⟩ : ∃ z, z = shaS D := ⟨_, rfl⟩
  rw [← hz]
  have HZ := Lib.hid hz
  have HB2 := Lib.hid hb2
  clear hsum hbY hb2 hz
  go_wp2_with fail
  go_ret
  refine ⟨⟨some ⟨Y.heap.size, 0, none⟩, 8, 32⟩, rfl, ?_, HB2.out.trans (((Below.refl Y.heap.size Y).alloc (Nat.le_refl _) _).mono HB2.out.size)⟩
  refine ⟨(sumB_length l).symm, (by show 8 ≤ 32; omega), fun _ => ⟨Y.heap.size, 0, rfl, HB2.out.size, by simp, fun k hk => ?_⟩⟩
  rw [sumB_length] at hk
  have hzl := z.len
  have hg : (sumB l)[k]? = z.l[k]? := by unfold sumB; rw [List.getElem?_take, if_pos hk, ← HD.out, ← HZ.out]
  rw [List.getElem?_eq_getElem (by rw [sumB_length]; exact hk), List.getElem?_eq_getElem (by omega)] at hg
  rw [Option.some.inj hg, Nat.zero_add, World.cell?_alloc_mark]
  exact Hash.arr_get z k (by omega)
set_option maxRecDepth 100000 in
set_option maxHeartbeats 1000000 in
theorem framed_wal (v : Sl) (l : List UInt8) (w : World) (h : bytesAt w v l w.heap.size) (hml : l.length ≤ 100000000) : Calls Try.prog 96 #[.slice v.a v.n v.c] w fun e w' => ∃ s : Sl, e = .returned (.slice s.a s.n s.c) ∧ ownB w' (fun k => w.heap.size ≤ k) s (frameS l) ∧ Below w.heap.size w w' := by
  have hn : v.n = l.length := h.1
  have hp := put_num (l.length : Int) ⟨by omega, by omega⟩ w
  rw [Int.toNat_natCast] at hp
  have hput := putS_le l.length
  obtain ⟨va, vn, vc⟩ := v
  simp only at hn
  subst hn
  go_enter Try.func96, Try.ntmps96
  go_wp2_with (go_at_call 145; refine hp.mono ?_; rintro e w1 ⟨a1, c1, rfl, ho1, hb1⟩)
  have hp1 := row_bytes ho1
  have h1 := (h.below hb1).mono hb1.size
  have HP1 := Lib.hid hp1
  clear hp hp1 ho1
  refine (sum_wal ⟨va, l.length, vc⟩ l w1 h1 hml).mono ?_
  rintro e w2 ⟨⟨sa, sn, sc⟩, rfl, hs2, hb2⟩
  have h2 := (h1.below hb2).mono hb2.size
  have hp2 := HP1.out.keep hb2
  have hbw2 := hb1.trans (hb2.mono hb1.size)
  clear h1 hb2 HP1 hb1
  go_wp2_with fail
  obtain ⟨W, hW⟩ : ∃ W, W = w2.alloc (.cells #[.slice (some a1) (putS l.length).length c1, .slice sa sn sc, .slice va l.length vc] 102) := ⟨_, rfl⟩
  rw [← hW]
  have hbW : Below w2.heap.size w2 W := hW ▸ (Below.refl _ _).alloc (Nat.le_refl _) _
  have hblk : W.heap[w2.heap.size]? = some (.cells #[.slice (some a1) (putS l.length).length c1, .slice sa sn sc, .slice va l.length vc] 102 (0, 0)) := hW ▸ heap_alloc_new w2 _
  have hcc := concat_bytes (some ⟨w2.heap.size, 0, none⟩) 3 [(⟨some a1, (putS l.length).length, c1⟩, putS l.length), (⟨sa, sn, sc⟩, sumB l), (⟨va, l.length, vc⟩, l)] W (by simp)
    (fun _ => ⟨w2.heap.size, 0, rfl, (cells_known hblk).2.2, fun k hk => by
      rw [(cells_known hblk).1, Nat.zero_add]
      have hk2 : k < 3 := hk
      match k, hk2 with
      | 0, _ => rfl
      | 1, _ => rfl
      | 2, _ => rfl⟩)
    (fun q hq => by
      simp only [List.mem_cons, List.not_mem_nil, or_false] at hq
      rcases hq with rfl | rfl | rfl
      · exact (hp2.keep hbW).at
      · exact (hs2.keep hbW).at
      · exact (h2.below hbW).mono hbW.size)
    (by simp [sumB_length]; omega)
  simp only [List.flatMap_cons, List.flatMap_nil, List.append_nil, List.length_cons, List.length_nil, Nat.zero_add, Nat.reduceAdd] at hcc
  have hbw : Below w.heap.size w W := hbw2.trans (hbW.mono hbw2.size)
  have HB := Lib.hid hbw
  clear hW hbW hblk h2 hbw hbw2 hp2 hs2
  refine hcc.mono ?_
  rintro e Y ⟨s, rfl, ho, hbY⟩
  have HO := Lib.hid ho
  have HBY := Lib.hid hbY
  clear hcc ho hbY
  go_wp2_with fail
  go_ret
  exact ⟨s, rfl, HO.out.base_mono (fun k hk => Nat.le_trans HB.out.size hk), HB.out.trans (HBY.out.mono HB.out.size)⟩
end Go.Proofs.Ytkiindgcbpkddaa
