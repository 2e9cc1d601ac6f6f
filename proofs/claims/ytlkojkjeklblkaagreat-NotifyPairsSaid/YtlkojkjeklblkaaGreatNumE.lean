/- Contracts of package num, continued: an Ink writes numbers. Contracts of package num, continued: an Ink writes hashes, outpoints, scripts. Contracts of package num, continued: an Ink writes scripts. -/
import Derived.Test.YtlkojkjeklblkaaGreatNumB
import Derived.Deep.AppendLies
import Derived.Deep.RegionLaw
import Derived.Deep.RegionHeld3
set_option linter.unusedSimpArgs false
set_option linter.unusedVariables false
namespace Go.Proofs.YtlkojkjeklblkaaGreat
open Go.RowKit
/-- Several numbers' bytes. -/
def encN (l : List Int) : List UInt8 := l.flatMap fun n => putS n.toNat
theorem encN_take {l : List Int} {k : Nat} (hk : k < l.length) : encN (l.take (k + 1)) = encN (l.take k) ++ putS l[k].toNat := by
  unfold encN
  rw [List.take_succ_eq_append_getElem hk, List.flatMap_append]
  simp
theorem encN_le (l : List Int) : (encN l).length ≤ 9 * l.length := by
  unfold encN
  induction l with
  | nil => simp
  | cons x l ih => have := putS_le x.toNat; simp only [List.flatMap_cons, List.length_append, List.length_cons]; omega
theorem ink_cells {w : World} {p : Nat} {s : Sl} {l : List UInt8} {B : Nat} (h : inkAt w p s l B) :
    w.cell? ⟨p, 0, none⟩ = some s.v ∧ w.cell? ⟨p, 1, none⟩ = some (.bool false) ∧ (∀ o, w.frozen? ⟨p, o, none⟩ = false) ∧ p < w.heap.size ∧ s.n = l.length := by
  have hc := cells_known h.2.1
  refine ⟨hc.1 0, hc.1 1, hc.2.1, hc.2.2, ?_⟩
  obtain ⟨a, c, hv, -, -⟩ := ownsRow_slice h.2.2.1
  injection hv
theorem ink_row2 {w : World} {p : Nat} {s : Sl} {l : List UInt8} {B : Nat} (h : inkAt w p s l B) (o : Nat) (u : Value) : (w.setCell ⟨p, o, none⟩ u).ownsRow B 5 1 s.v l.length (byteVs l) :=
  ownsRow_upd h.2.2.1 (Upd.setCell w ⟨p, o, none⟩ u) (fun k hk e => h.2.2.2 (by rw [hk]; exact congrArg some e))
/-- What a row in new memory holds, behind a store elsewhere. -/
theorem row_cells2 {w1 : World} {base m c1 : Nat} {a1 : Addr} {xs : List Value} (h : w1.ownsRow base 5 1 (.slice (some a1) m c1) m xs) {p : Nat} (hp : p < base) (hm : 0 < m) (o : Nat) (v : Value) :
    ∀ j u, xs[j]? = some u → (w1.setCell ⟨p, o, none⟩ v).cell? (a1.add j) = some u := by
  intro j u hj
  obtain ⟨a, c, hv, -, hg⟩ := ownsRow_slice h
  obtain ⟨g, ha, h1, h2⟩ := hg (by omega)
  injection hv with hv1
  rw [ha] at hv1
  injection hv1 with hv1
  subst hv1
  have := h.cells (g := g) rfl j u hj
  rw [← this]
  have hbk : ((⟨g, 0, none⟩ : Addr).add j).block = g := by unfold Addr.add; split <;> rfl
  exact World.cell?_of_block (by rw [hbk]; exact (Upd.setCell w1 ⟨p, o, none⟩ v).block g h2 (fun e => by simp at e; omega))
set_option maxRecDepth 100000 in
set_option maxHeartbeats 1000000 in
theorem inkN (p : Nat) (s : Sl) (l : List UInt8) (b off c : Nat) (xs : List Int) (w : World) (B : Nat) (hB : B ≤ w.heap.size) (hk : inkAt w p s l B) (hx : ∀ x ∈ xs, OkNum x) (hlen : l.length + 9 * xs.length ≤ 140737488355328)
    (hb : b < w.heap.size) (hbs : ¬ inkFoot p s b) (hxs : ∀ k (h : k < xs.length), w.cell? ⟨b, off + k, none⟩ = some (.int .i64 xs[k])) :
    Calls Tryz.prog 126 #[.pointer (some ⟨p, 0, none⟩), .slice (some ⟨b, off, none⟩) xs.length c] w (RetInk w p s (l ++ encN xs) B) := by
  obtain ⟨i0, hi0, hz0, hz1, hz2⟩ := info_parts Tryz.info5
  have q111 : ∀ (w : World) (a : Option Addr) (n c n' c' : Nat), (binOp .eql 137 (.slice a n c) (.slice none n' c')).run Tryz.prog w = .ok (.bool a.isNone) w := fun w a n c n' c' => Lib.run_eql_slice_nil w _ _ a n c n' c' Tryz.underlying137
  go_enter Tryz.func126, Tryz.ntmps126
  go_wp2
  go_loopw [10] (fun i wr => ∃ (k : Nat) (s' : Sl), k ≤ xs.length ∧ i = .int .i64 k ∧ inkAt wr p s' (l ++ encN (xs.take k)) B ∧ Upd w wr (inkFoot p s) ∧ ∀ k, inkFoot p s' k → inkFoot p s k ∨ w.heap.size ≤ k) (fun i _ => xs.length - (intOf i).toNat)
  case atStart => exact ⟨0, s, Nat.zero_le _, rfl, by simpa [encN] using hk, Upd.refl _ _, fun k h => .inl h⟩
  case round =>
    obtain ⟨k, s', hkl, rfl, hik, hu, hf⟩ := hrel
    by_cases hlt : k < xs.length
    · have hz := hu.size
      have hcell : wr.cell? ⟨b, off + k, none⟩ = some (.int .i64 xs[k]) := by rw [hu.cell hb hbs]; exact hxs k hlt
      have hcl := encN_le (xs.take k)
      have hp := putS_le xs[k].toNat
      have hp0 := putS_pos xs[k].toNat
      have hl1 : (l ++ encN (xs.take k)).length + (putS xs[k].toNat).length ≤ 140737488355328 := by simp at hcl ⊢; omega
      have hst := encN_take hlt
      have HST := Lib.hid hst
      clear hst
      go_wp2_with (first | (go_at_call 165; refine (put_num _ (hx _ (List.getElem_mem hlt)) _).mono ?_; rintro e w1 ⟨a1, c1, rfl, hown1, hb1⟩; have hi1 := hik.upd (Upd.of_below hb1 (fun _ => False)) (fun _ _ h => h); obtain ⟨hc0, hc1, hcf, hcp, hcn⟩ := ink_cells hi1) | (at_builtin; refine wpList_append_lies _ rfl _ _ 137 rfl B 5 i0 (.int .u8 0) 1 1 Tryz.underlying137 hi0 hz0 hz1 hz2 rfl (by decide) s'.v (l ++ encN (xs.take k)).length (byteVs (l ++ encN (xs.take k))) rfl (ink_row2 hi1 _ _) a1 _ c1 (byteVs (putS xs[k].toNat)) rfl (by simp [byteVs_length]) (row_cells2 hown1 (cells_known hik.2.1).2.2 hp0 _ _) (one_byteVs _) hp0 (by unfold maxLen; omega) (by omega) (by have := hb1.size; simp; omega) _ rfl ?_))
      intro g cap w3 hown3 hgrow3 hg3 hlt3
      have h2p : (w1.setCell ⟨p, 1, none⟩ (.bool false)).heap[p]? = some (.cells (InkV.mk s' false).arr 221 (0, 0)) := by rw [heap_set hi1.2.1]; rfl
      have hne : s'.v.ownBlock ≠ some p := hi1.2.2.2
      have hc3 : (∀ o, w3.cell? ⟨p, o, none⟩ = (InkV.mk s' false).arr[o]?) ∧ (∀ o, w3.frozen? ⟨p, o, none⟩ = false) ∧ p < w3.heap.size :=
        cells_known (by rw [hgrow3.block p (by simpa using hcp) (Ne.symm hne)]; exact h2p)
      obtain ⟨hc30, hcf3, hcp3⟩ := hc3
      have hc30 := hc30 0
      have hn3 : l.length + (encN (xs.take k)).length + (putS xs[k].toNat).length = ((l ++ encN (xs.take k)) ++ putS xs[k].toNat).length := by simp; omega
      obtain ⟨s3, hs3, hi3, hu3, hf3⟩ := ink_step (hik) (Nat.le_trans hB hz) hn3 h2p ((Upd.of_below hb1 _).trans (Upd.setCell w1 ⟨p, 1, none⟩ (.bool false)) (fun _ _ h => h)) hgrow3 (by rw [byteVs_append]; exact hown3) (fun k hk => by
        rcases hg3 with h | h
        · exact .inl (by rw [h]; exact hk)
        · injection hk with hk; subst hk; exact .inr (by rw [h]; simp))
      have hi3' := Lib.hid hi3
      have hu3' := Lib.hid hu3
      have hs3' := Lib.hid hs3
      clear hs3 hi3 hu3 hgrow3 hown3 hn3 h2p
      go_wp2_with fail
      go_roundw
      case rel =>
        refine ⟨k + 1, s3, by omega, by go_num, ?_, ?_, ?_⟩
        · rw [HST.out, ← List.append_assoc]; exact hi3'.out
        · refine hu.trans hu3'.out (fun i hi h => ?_)
          rcases hf i h with h' | h'
          · exact h'
          · omega
        · intro i hi
          rcases hf3 i hi with h' | h'
          · exact hf i h'
          · exact .inr (by omega)
      case measure => simp [intOf]; omega
    · go_wp2
      go_ret
      have : k = xs.length := by omega
      subst this
      rw [List.take_length] at hik
      exact ⟨s', rfl, hik, hu, hf⟩
end Go.Proofs.YtlkojkjeklblkaaGreat
namespace Go.Proofs.YtlkojkjeklblkaaGreat
open Go.RowKit
set_option maxRecDepth 100000 in
set_option maxHeartbeats 1000000 in
theorem inkH (p : Nat) (s : Sl) (l : List UInt8) (h : Hash) (w : World) (B : Nat) (hB : B ≤ w.heap.size) (hk : inkAt w p s l B) (hlen : l.length + 32 ≤ 140737488355328) :
    Calls Tryz.prog 222 #[.pointer (some ⟨p, 0, none⟩), .agg h.arr] w (RetInk w p s (l ++ h.l) B) := by
  obtain ⟨i0, hi0, hz0, hz1, hz2⟩ := info_parts Tryz.info5
  have hi1 := hk.upd (Upd.of_below ((Below.refl w.heap.size w).alloc (Nat.le_refl _) (.cells h.arr 38)) (fun _ => False)) (fun _ _ h => h)
  obtain ⟨hc0, hc1, hcf, hcp, hcn⟩ := ink_cells hi1
  go_enter Tryz.func222, Tryz.ntmps222
  go_wp2_with fail
  have hbl : (byteVs h.l).length = 32 * 1 := by rw [byteVs_length, h.len]
  have hnews : ∀ j u, (byteVs h.l)[j]? = some u → (w.alloc (.cells h.arr 38)).drew.cell? ((⟨w.heap.size, 0, none⟩ : Addr).add j) = some u :=
    World.news_of_block (fr := (0, 0)) (t := 38) (by show (w.heap.push _)[w.heap.size]? = _; rw [Array.getElem?_push_size]; rfl)
  have HNEWS := Lib.hid hnews
  have HOWN := Lib.hid ((hi1.2.2.1).drew)
  clear hnews
  have hne : s.v.ownBlock ≠ some p := hi1.2.2.2
  have h2p : (w.alloc (.cells h.arr 38)).drew.heap[p]? = some (.cells (InkV.mk s false).arr 221 (0, 0)) := hi1.2.1
  go_region_law (refine step_append_lies _ rfl (.tmp 9) (.tmp 10) 137 rfl B 5 i0 (.int .u8 0) 1 1 Tryz.underlying137 hi0 hz0 hz1 hz2 rfl (by decide) s.v l.length (byteVs l) (by simp [Act.eval, Act.put]) HOWN.out ⟨w.heap.size, 0, none⟩ 32 32 (byteVs h.l) (by simp [Act.eval, Act.put]) hbl HNEWS.out (one_byteVs _) (by decide) (by unfold maxLen; omega) (by omega) (by simp; omega) _ rfl ?_; intro g cap w3 hown3 hgrow3 hg3 hlt3; obtain ⟨hc30, hcf3, hcp3⟩ := cells_known (show w3.heap[p]? = some (.cells (InkV.mk s false).arr 221 (0, 0)) by rw [hgrow3.block p (by simpa using hcp) (Ne.symm hne)]; exact h2p); have hc30 := hc30 0)
  all_goals go_wp2_with fail
  all_goals go_ret
  all_goals obtain ⟨s3, hs3, hi3, hu3, hf3⟩ := ink_step (w2 := (w.alloc (.cells h.arr 38)).drew) hk hB (show l.length + 32 = (l ++ h.l).length by simp [h.len]) h2p (Upd.of_below (((Below.refl w.heap.size w).alloc (Nat.le_refl _) _).drew) _) hgrow3 (by rw [byteVs_append]; exact hown3) (fun k hk => by
        rcases hg3 with h | h
        · exact .inl (by rw [h]; exact hk)
        · injection hk with hk; subst hk; exact .inr (by rw [h]; simp))
  all_goals exact ⟨s3, rfl, hs3 ▸ hi3, hs3 ▸ hu3, hf3⟩
theorem rangeAt_row {w : World} {b o n : Nat} {cs : Array Value} (h : row? w ⟨b, o, none⟩ n = some cs) : w.rangeAt b o cs.toList := fun j v hv => by
  have hs := (row?_cell h).1
  have hj : j < n := by
    rcases Nat.lt_or_ge j n with h' | h'
    · exact h'
    · rw [List.getElem?_eq_none (by simp; omega)] at hv; cases hv
  rw [row?_cellAt h j hj]
  simpa using hv
theorem rangeAt_upd {w w' : World} {S : Nat → Prop} (h : Upd w w' S) {b o : Nat} {cs : List Value} (hr : w.rangeAt b o cs) (hb : b < w.heap.size) (hs : ¬ S b) : w'.rangeAt b o cs := fun j v hv => (h.cell hb hs _).trans (hr j v hv)
theorem held_upd {w w' : World} {S : Nat → Prop} (h : Upd w w' S) {b o : Nat} {cs : List Value} {v : Value} (hr : w.rangeAt b 0 cs ∧ w.cell? ⟨b, o, none⟩ = some v) (hb : b < w.heap.size) (hs : ¬ S b) : w'.rangeAt b 0 cs ∧ w'.cell? ⟨b, o, none⟩ = some v :=
  ⟨rangeAt_upd h hr.1 hb hs, (h.cell hb hs o).trans hr.2⟩
theorem held_alloc {w : World} {b o : Nat} {cs : List Value} {v : Value} (hr : w.rangeAt b 0 cs ∧ w.cell? ⟨b, o, none⟩ = some v) (hb : b < w.heap.size) (x : Obj) : (w.alloc x).rangeAt b 0 cs ∧ (w.alloc x).cell? ⟨b, o, none⟩ = some v :=
  held_upd (S := fun _ => False) (Upd.of_below ((Below.refl w.heap.size w).alloc (Nat.le_refl _) x) _) hr hb (fun h => h)
theorem ink_lt {w : World} {p : Nat} {s : Sl} {l : List UInt8} {B : Nat} (h : inkAt w p s l B) {k : Nat} (hk : inkFoot p s k) : k < w.heap.size := by
  rcases hk with rfl | hk
  · exact (cells_known h.2.1).2.2
  · exact (h.2.2.1.lt k hk).2
theorem RetInk.trans {w w1 w2 : World} {p : Nat} {s s1 : Sl} {l : List UInt8} {B : Nat} {e : Ending} (hu : Upd w w1 (inkFoot p s)) (hf : ∀ k, inkFoot p s1 k → inkFoot p s k ∨ w.heap.size ≤ k) (h : RetInk w1 p s1 l B e w2) : RetInk w p s l B e w2 := by
  obtain ⟨s2, he, hi, hu2, hf2⟩ := h
  refine ⟨s2, he, hi, hu.trans hu2 (fun i hi h => ?_), fun k hk => ?_⟩
  · rcases hf i h with h | h
    · exact h
    · omega
  · rcases hf2 k hk with h | h
    · exact hf k h
    · exact .inr (Nat.le_trans hu.size h)
theorem RetInk.below {w w1 w2 : World} {p : Nat} {s : Sl} {l : List UInt8} {B : Nat} {e : Ending} (hb : Below w.heap.size w w1) (h : RetInk w1 p s l B e w2) : RetInk w p s l B e w2 :=
  RetInk.trans (Upd.of_below hb _) (fun _ h => .inl h) h
theorem inkAt.alloc {w : World} {p : Nat} {s : Sl} {l : List UInt8} {B : Nat} (h : inkAt w p s l B) (x : Obj) : inkAt (w.alloc x) p s l B :=
  h.upd (Upd.of_below ((Below.refl w.heap.size w).alloc (Nat.le_refl _) x) (fun _ => False)) (fun _ _ h => h)
theorem inkAt.drew {w : World} {p : Nat} {s : Sl} {l : List UInt8} {B : Nat} (h : inkAt w p s l B) : inkAt w.drew p s l B := h
/-- Numbers that stand in a slice made for it. -/
theorem inkN_new (p : Nat) (s : Sl) (l : List UInt8) (c : Nat) (xs : List Int) (t : TypeId) (W : World) (B : Nat) (hB : B ≤ W.heap.size) (hk : inkAt W p s l B) (hx : ∀ x ∈ xs, OkNum x) (hlen : l.length + 9 * xs.length ≤ 140737488355328) :
    Calls Tryz.prog 126 #[.pointer (some ⟨p, 0, none⟩), .slice (some ⟨W.heap.size, 0, none⟩) xs.length c] (W.alloc (.cells (xs.map (Value.int .i64)).toArray t (0, 0))) (RetInk W p s (l ++ encN xs) B) := by
  refine (inkN p s l W.heap.size 0 c xs _ B (by simp; omega) (hk.alloc _) hx hlen (by simp) (fun h => Nat.lt_irrefl _ (ink_lt hk h)) ?_).mono fun e w' h => h.below ((Below.refl W.heap.size W).alloc (Nat.le_refl _) _)
  intro k hk
  have := (cells_known (w := W.alloc (.cells (xs.map (Value.int .i64)).toArray t (0, 0))) (b := W.heap.size) (c := (xs.map (Value.int .i64)).toArray) (t := t) (by show (W.heap.push _)[W.heap.size]? = _; rw [Array.getElem?_push_size])).1 (0 + k)
  rw [this]
  simp [hk]
set_option maxRecDepth 100000 in
set_option maxHeartbeats 1000000 in
theorem inkP (p : Nat) (s : Sl) (l : List UInt8) (o : Outpoint) (w : World) (B : Nat) (hB : B ≤ w.heap.size) (hk : inkAt w p s l B) (hn : OkNum o.n) (hlen : l.length + 41 ≤ 140737488355328) :
    Calls Tryz.prog 191 #[.pointer (some ⟨p, 0, none⟩), .agg o.arr] w (RetInk w p s (l ++ o.tx.l ++ encN [o.n]) B) := by
  go_enter Tryz.func191, Tryz.ntmps191
  go_wp2_with fail
  obtain ⟨W, hW⟩ : ∃ W, W = w.alloc (.cells o.arr 40) := ⟨_, rfl⟩
  rw [← hW]
  have hbW : Below w.heap.size w W := hW ▸ (Below.refl w.heap.size w).alloc (Nat.le_refl _) _
  have hi1 : inkAt W p s l B := hW ▸ hk.alloc _
  have hi2 := (hi1.drew).alloc (.cells #[.int .i64 o.n] 3)
  have hr0 : row? W ⟨w.heap.size, 0, none⟩ 33 = some o.arr := by rw [hW, row?_alloc_at _ _ _ _ _ _ _ rfl]; simp
  have hr1 : W.rangeAt w.heap.size 0 o.tx.arr.toList := rangeAt_row ((row?_part hr0 0 32 (by omega)).trans (by rw [Nat.zero_add, Outpoint.ext_0]))
  have hr2 : W.cell? ⟨w.heap.size, 32, none⟩ = some (.int .i64 o.n) := by have := row?_cellAt hr0 32 (by omega); simpa using this
  have hH : w.heap.size < W.heap.size := by rw [hW]; simp
  have hHs : ¬ inkFoot p s w.heap.size := fun h => Nat.lt_irrefl _ (ink_lt hk h)
  have hU : Tryz.prog.underlying 38 = some (.array 32 5) := Tryz.underlying38
  have hI : (Tryz.prog.info? 38).map (·.size) = some o.tx.arr.toList.length := by simp [size_Hash]
  have hBW : B ≤ W.heap.size := by have := hbW.size; omega
  have hNum : ∀ x ∈ [o.n], OkNum x := by simpa using hn
  clear hr0 hW
  have hS0 : W.drew.rangeAt w.heap.size 0 o.tx.arr.toList ∧ W.drew.cell? ⟨w.heap.size, 32, none⟩ = some (.int .i64 o.n) := ⟨hr1, hr2⟩
  have hS2 := held_alloc hS0 hH (.cells #[.int .i64 o.n] 3 (0, 0))
  have hz2 : w.heap.size < (W.drew.alloc (.cells #[.int .i64 o.n] 3 (0, 0))).heap.size := by simp; omega
  have hB2 : B ≤ (W.drew.alloc (.cells #[.int .i64 o.n] 3 (0, 0))).heap.size := by simp; omega
  have hc2 : ∀ k (h : k < [o.n].length), (W.drew.alloc (.cells #[.int .i64 o.n] 3 (0, 0))).cell? ⟨W.heap.size, 0 + k, none⟩ = some (.int .i64 [o.n][k]) := by
    intro k hk
    have : k = 0 := by simpa using hk
    subst this
    exact (cells_known (w := W.drew.alloc (.cells #[.int .i64 o.n] 3 (0, 0))) (b := W.heap.size) (by show (W.heap.push _)[W.heap.size]? = _; rw [Array.getElem?_push_size])).1 0
  have hm2 : W.heap.size < (W.drew.alloc (.cells #[.int .i64 o.n] 3 (0, 0))).heap.size := by simp
  have hn2 : ¬ inkFoot p s W.heap.size := fun h => Nat.lt_irrefl _ (ink_lt hi1 h)
  go_region_held3 (fun X : World => X.rangeAt w.heap.size 0 o.tx.arr.toList ∧ X.cell? ⟨w.heap.size, 32, none⟩ = some (.int .i64 o.n)) (first | exact hS0 | exact hS1 | exact hS2 | exact held_alloc hS1 hz1 _)
    (first | (go_at_call 222; refine (inkH p s l o.tx W.drew B hBW hi1 (by omega)).mono ?_; rintro e w1 ⟨s1, rfl, hk1, hu1, hf1⟩; have hA := hu1.size; have hBw1 : B ≤ w1.heap.size := Nat.le_trans hBW hA; have hz1 : w.heap.size < w1.heap.size := Nat.lt_of_lt_of_le hH hA; have hS1 := held_upd hu1 hS0 hH hHs) | (go_at_call 126; refine (inkN_new p s1 (l ++ o.tx.l) 1 [o.n] 3 w1 B hBw1 hk1 hNum (by simp [o.tx.len]; omega)).mono ?_; rintro e w2 hret; obtain ⟨s2, rfl, hk3, hu3, hf3⟩ := RetInk.trans hu1 hf1 hret; have hS1 : w2.rangeAt w.heap.size 0 o.tx.arr.toList ∧ w2.cell? ⟨w.heap.size, 32, none⟩ = some (.int .i64 o.n) := held_upd hu3 hS0 hH hHs) | (go_at_call 222; refine (inkH p s l o.tx (W.drew.alloc (.cells #[.int .i64 o.n] 3 (0, 0))) B hB2 hi2 (by omega)).mono ?_; rintro e wB ⟨sB, rfl, hkB, huB, hfB⟩; have hS1 := held_upd huB hS2 hz2 hHs; have hBwB : B ≤ wB.heap.size := Nat.le_trans hB2 huB.size) | (go_at_call 126; refine (inkN p sB (l ++ o.tx.l) W.heap.size 0 1 [o.n] wB B hBwB hkB hNum (by simp [o.tx.len]; omega) (Nat.lt_of_lt_of_le hm2 huB.size) (fun h => (hfB _ h).elim hn2 (fun h => Nat.lt_irrefl _ (Nat.lt_of_lt_of_le hm2 h))) (fun k hk => (huB.cell hm2 hn2 _).trans (hc2 k hk))).mono ?_; rintro e w2 hret; obtain ⟨s2, rfl, hk3, hu3, hf3⟩ := RetInk.below (w := W.drew) ((Below.refl W.heap.size W.drew).alloc (Nat.le_refl _) _) (RetInk.trans huB hfB hret); have hS1 : w2.rangeAt w.heap.size 0 o.tx.arr.toList ∧ w2.cell? ⟨w.heap.size, 32, none⟩ = some (.int .i64 o.n) := held_upd hu3 hS0 hH hHs))
  all_goals go_wp2_with fail
  all_goals go_ret
  all_goals exact RetInk.below (w1 := W.drew) (hbW.drew) ⟨s2, rfl, hk3, hu3, hf3⟩
end Go.Proofs.YtlkojkjeklblkaaGreat
namespace Go.Proofs.YtlkojkjeklblkaaGreat
open Go.RowKit
def Script.ints (o : Script) : List Int := [o.kind, o.key, o.other, o.rev, o.delay, o.expiry]
/-- The cells of a script that lies in block b. -/
abbrev HeldS (o : Script) (b : Nat) (X : World) : Prop :=
  X.cell? ⟨b, 0, none⟩ = some (.int .i64 o.kind) ∧ X.cell? ⟨b, 1, none⟩ = some (.int .i64 o.key) ∧ X.cell? ⟨b, 2, none⟩ = some (.int .i64 o.other) ∧ X.cell? ⟨b, 3, none⟩ = some (.int .i64 o.rev) ∧ X.cell? ⟨b, 4, none⟩ = some (.int .i64 o.delay) ∧ X.cell? ⟨b, 5, none⟩ = some (.int .i64 o.expiry) ∧ X.rangeAt b 6 o.hash.arr.toList
theorem HeldS.upd {o : Script} {b : Nat} {w w' : World} {S : Nat → Prop} (h : Upd w w' S) (hr : HeldS o b w) (hb : b < w.heap.size) (hs : ¬ S b) : HeldS o b w' :=
  ⟨(h.cell hb hs _).trans hr.1, (h.cell hb hs _).trans hr.2.1, (h.cell hb hs _).trans hr.2.2.1, (h.cell hb hs _).trans hr.2.2.2.1, (h.cell hb hs _).trans hr.2.2.2.2.1, (h.cell hb hs _).trans hr.2.2.2.2.2.1, rangeAt_upd h hr.2.2.2.2.2.2 hb hs⟩
set_option maxRecDepth 100000 in
set_option maxHeartbeats 1000000 in
theorem inkS (p : Nat) (s : Sl) (l : List UInt8) (o : Script) (w : World) (B : Nat) (hB : B ≤ w.heap.size) (hk : inkAt w p s l B) (hn : ∀ x ∈ o.ints, OkNum x) (hlen : l.length + 86 ≤ 140737488355328) :
    Calls Tryz.prog 192 #[.pointer (some ⟨p, 0, none⟩), .agg o.arr] w (RetInk w p s (l ++ encN o.ints ++ o.hash.l) B) := by
  go_enter Tryz.func192, Tryz.ntmps192
  go_wp2_with fail
  obtain ⟨W, hW⟩ : ∃ W, W = w.alloc (.cells o.arr 194) := ⟨_, rfl⟩
  rw [← hW]
  have hbW : Below w.heap.size w W := hW ▸ (Below.refl w.heap.size w).alloc (Nat.le_refl _) _
  have hi1 : inkAt W p s l B := hW ▸ hk.alloc _
  have hr0 : row? W ⟨w.heap.size, 0, none⟩ 38 = some o.arr := by rw [hW, row?_alloc_at _ _ _ _ _ _ _ rfl]; simp
  have hr6 : W.rangeAt w.heap.size 6 o.hash.arr.toList := rangeAt_row ((row?_part hr0 6 32 (by omega)).trans (by rw [Script.ext_6]))
  have hc0 : W.cell? ⟨w.heap.size, 0, none⟩ = some (.int .i64 o.kind) := by have := row?_cellAt hr0 0 (by omega); simpa using this
  have hc1 : W.cell? ⟨w.heap.size, 1, none⟩ = some (.int .i64 o.key) := by have := row?_cellAt hr0 1 (by omega); simpa using this
  have hc2 : W.cell? ⟨w.heap.size, 2, none⟩ = some (.int .i64 o.other) := by have := row?_cellAt hr0 2 (by omega); simpa using this
  have hc3 : W.cell? ⟨w.heap.size, 3, none⟩ = some (.int .i64 o.rev) := by have := row?_cellAt hr0 3 (by omega); simpa using this
  have hc4 : W.cell? ⟨w.heap.size, 4, none⟩ = some (.int .i64 o.delay) := by have := row?_cellAt hr0 4 (by omega); simpa using this
  have hc5 : W.cell? ⟨w.heap.size, 5, none⟩ = some (.int .i64 o.expiry) := by have := row?_cellAt hr0 5 (by omega); simpa using this
  have hH : w.heap.size < W.heap.size := by rw [hW]; simp
  have hHs : ¬ inkFoot p s w.heap.size := fun h => Nat.lt_irrefl _ (ink_lt hk h)
  have hU : Tryz.prog.underlying 38 = some (.array 32 5) := Tryz.underlying38
  have hI : (Tryz.prog.info? 38).map (·.size) = some o.hash.arr.toList.length := by simp [size_Hash]
  have hBW : B ≤ W.heap.size := by have := hbW.size; omega
  have hel : (encN o.ints).length ≤ 54 := encN_le o.ints
  have hl1 : l.length + 9 * o.ints.length ≤ 140737488355328 := by simp [Script.ints]; omega
  have hl2 : (l ++ encN o.ints).length + 32 ≤ 140737488355328 := by simp; omega
  clear hr0 hW
  have hS0 : HeldS o w.heap.size W.drew := ⟨hc0, hc1, hc2, hc3, hc4, hc5, hr6⟩
  have hS2 : HeldS o w.heap.size (W.drew.alloc (.cells (o.ints.map (Value.int .i64)).toArray 3 (0, 0))) := HeldS.upd (S := fun _ => False) (Upd.of_below ((Below.refl W.heap.size W.drew).alloc (Nat.le_refl _) _) _) hS0 hH (fun h => h)
  go_region_held3 (HeldS o w.heap.size) (first | exact hS0 | exact hS1 | exact hS2)
    (first | (go_at_call 126; refine (inkN_new p s l 6 o.ints 3 W.drew B hBW hi1.drew hn hl1).mono ?_; rintro e w1 ⟨s1, rfl, hk1, hu1, hf1⟩; have hS1 : HeldS o w.heap.size w1 := HeldS.upd hu1 hS0 hH hHs; have hBw1 : B ≤ w1.heap.size := Nat.le_trans hBW hu1.size) | (go_at_call 222; refine (inkH p s1 (l ++ encN o.ints) o.hash w1 B hBw1 hk1 hl2).mono ?_; rintro e w2 hret; obtain ⟨s2, rfl, hk3, hu3, hf3⟩ := RetInk.trans hu1 hf1 hret; have hS1 : HeldS o w.heap.size w2 := HeldS.upd hu3 hS0 hH hHs))
  all_goals go_wp2_with fail
  all_goals go_ret
  all_goals exact RetInk.below (w1 := W.drew) (hbW.drew) ⟨s2, rfl, hk3, hu3, hf3⟩
end Go.Proofs.YtlkojkjeklblkaaGreat
