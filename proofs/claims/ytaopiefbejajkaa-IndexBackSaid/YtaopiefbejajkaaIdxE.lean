/- Package index: what lies in memory; no index, its height; may a transaction come? -/
import Derived.Test.YtaopiefbejajkaaIdxD
set_option linter.unusedSimpArgs false
set_option linter.unusedVariables false
namespace Go.Proofs.Ytaopiefbejajkaa
open Go.RowKit
/-- Where an index's parts lie. -/
structure IdxR where
  mt : Nat
  ms : Nat
  nt : Nat
  ns : Nat
  bv : Sl
  ivs : List Sl
  T : Hash → TxV
/-- The blocks that an index writes. -/
def IdxR.foot (p : Nat) (r : IdxR) (k : Nat) : Prop := k = p ∨ k = r.mt ∨ k = r.ms ∨ r.bv.v.ownBlock = some k
def IdxR.rest (p : Nat) (r : IdxR) (Z : Nat → Prop) (k : Nat) : Prop := Z k ∧ ¬ r.foot p k
def entV (T : Hash → TxV) (M : Maps) (z : Hash) : Option Value := (M.txs z).map fun x => .agg (EntryV.mk (T z) (x.2 : Nat)).arr
def spV (M : Maps) (q : Pt) : Option Value := (M.sp q.1).map hashV
structure IdxAt (w : World) (Z : Nat → Prop) (p : Nat) (r : IdxR) (M : Maps) (B : List (List Hash)) : Prop where
  hd : w.heap[p]? = some (.cells (IndexV.mk r.bv (some r.mt) (some r.ms)).arr 146 (0, 0))
  txs : mapAt w hashV r.mt r.nt (entV r.T M)
  sp : mapAt w ptV r.ms r.ns (spV M)
  own : w.ownsRow 0 147 1 r.bv.v B.length (r.ivs.map Sl.v)
  bn : r.bv.n = B.length
  il : r.ivs.length = B.length
  ids : ∀ k (h : k < B.length) (h2 : k < r.ivs.length), slIn w (r.rest p Z) r.ivs[k] 32 Hash.arr B[k]
  ent : ∀ z x, M.txs z = some x → txIn w (r.rest p Z) (r.T z) x.1 ∧ checkS x.1 = 0
  zone : ∀ k, r.foot p k → Z k
  two : r.mt ≠ r.ms
section
variable {w w' : World} {Z Y : Nat → Prop} {p : Nat} {r : IdxR} {M : Maps} {B : List (List Hash)}
theorem IdxAt.lt (h : IdxAt w Z p r M B) {k : Nat} (hk : r.foot p k) : k < w.heap.size := by
  rcases hk with rfl | rfl | rfl | hk
  · exact (cells_known h.hd).2.2
  · exact h.txs.lt
  · exact h.sp.lt
  · exact (h.own.lt k hk).2
theorem IdxAt.kept {S : Nat → Prop} (h : IdxAt w Z p r M B) (hu : Upd w w' S) (hs : ∀ k, Z k → k < w.heap.size → ¬ S k) : IdxAt w' Z p r M B := by
  have hf : ∀ k, r.foot p k → w'.heap[k]? = w.heap[k]? := fun k hk => hu.block k (h.lt hk) (hs k (h.zone k hk) (h.lt hk))
  refine ⟨(hf p (.inl rfl)).trans h.hd, h.txs.of_block (hf _ (.inr (.inl rfl))), h.sp.of_block (hf _ (.inr (.inr (.inl rfl)))), ?_, h.bn, h.il, fun k h1 h2 => (h.ids k h1 h2).upd hu (fun j hj hl => hs j hj.1 hl), fun z x hx => ⟨((h.ent z x hx).1).upd hu (fun j hj hl => hs j hj.1 hl), (h.ent z x hx).2⟩, h.zone, h.two⟩
  exact ownsRow_upd h.own hu (fun k hk => hs k (h.zone k (.inr (.inr (.inr hk)))) (h.own.lt k hk).2)
theorem IdxAt.keep (h : IdxAt w Z p r M B) (hb : Below w.heap.size w w') : IdxAt w' Z p r M B := h.kept (S := fun _ => False) (Upd.of_below hb _) (fun _ _ _ hf => hf)
theorem IdxAt.zoned (h : IdxAt w Z p r M B) (hY : ∀ k, k < w.heap.size → Z k → Y k) : IdxAt w Y p r M B :=
  ⟨h.hd, h.txs, h.sp, h.own, h.bn, h.il, fun k h1 h2 => (h.ids k h1 h2).zone (fun j hj hz => ⟨hY j hj hz.1, hz.2⟩), fun z x hx => ⟨((h.ent z x hx).1).zone (fun j hj hz => ⟨hY j hj hz.1, hz.2⟩), (h.ent z x hx).2⟩, fun k hk => hY k (h.lt hk) (h.zone k hk), h.two⟩
theorem IdxAt.cell0 (h : IdxAt w Z p r M B) : w.cell? ⟨p, 0, none⟩ = some (.slice r.bv.a r.bv.n r.bv.c) := by rw [(cells_known h.hd).1]; exact IndexV.arr_0 _
theorem IdxAt.cell1 (h : IdxAt w Z p r M B) : w.cell? ⟨p, 1, none⟩ = some (.map (some r.mt)) := by rw [(cells_known h.hd).1]; exact IndexV.arr_1 _
theorem IdxAt.cell2 (h : IdxAt w Z p r M B) : w.cell? ⟨p, 2, none⟩ = some (.map (some r.ms)) := by rw [(cells_known h.hd).1]; exact IndexV.arr_2 _
/-- The entry at a number. -/
def entOf (T : Hash → TxV) (M : Maps) (z : Hash) : EntryV := match M.txs z with | some x => ⟨T z, (x.2 : Nat)⟩ | none => EntryV.zero
theorem IdxAt.look (h : IdxAt w Z p r M B) (z : Hash) : (Instr.lookup 142 (.map (some r.mt)) (.agg z.arr) true).run Try.prog w = .ok (.tuple #[.agg (entOf r.T M z).arr, .bool (M.txs z).isSome]) w ∧ (Instr.lookup 142 (.map (some r.mt)) (.agg z.arr) false).run Try.prog w = .ok (.agg (entOf r.T M z).arr) w := by
  have h1 := run_lookup hash_enc Try.underlying142 (zeroValue_run zero_EntryV w) h.txs z true
  have h2 := run_lookup hash_enc Try.underlying142 (zeroValue_run zero_EntryV w) h.txs z false
  rw [show hashV z = .agg z.arr from rfl] at h1 h2
  rw [h1, h2]
  unfold Go.Proofs.Ytaopiefbejajkaa.look entV entOf
  cases M.txs z <;> exact ⟨rfl, rfl⟩
theorem IdxAt.lookSp (h : IdxAt w Z p r M B) (q : Outpoint) (hq : i64 q.n) : (Instr.lookup 143 (.map (some r.ms)) (.agg q.arr) true).run Try.prog w = .ok (.tuple #[.agg ((M.sp q).getD Hash.zero).arr, .bool (M.sp q).isSome]) w := by
  have h1 := run_lookup pt_enc Try.underlying143 (zeroValue_run zero_Hash w) h.sp ⟨q, hq⟩ true
  rw [show ptV ⟨q, hq⟩ = .agg q.arr from rfl] at h1
  rw [h1]
  unfold Go.Proofs.Ytaopiefbejajkaa.look spV
  cases M.sp q <;> rfl
end
set_option maxRecDepth 100000 in
theorem new_ix (w : World) : Calls Try.prog 30 #[] w fun e w' => ∃ p r, e = .returned (.pointer (some ⟨p, 0, none⟩)) ∧ IdxAt w' (fun k => w.heap.size ≤ k) p r Maps.zero [] ∧ Below w.heap.size w w' := by
  have hmm := @run_makeMap Try.prog
  obtain ⟨W, hW⟩ : ∃ W, W = (w.alloc (.map #[] 0)).alloc (.map #[] 0) := ⟨_, rfl⟩
  have hbW : Below w.heap.size w W := hW ▸ ((Below.refl _ _).alloc (Nat.le_refl _) _).alloc (by simp) _
  have hm1 : mapAt W hashV w.heap.size 0 (fun _ => none) := hW ▸ (mapAt_made w hashV).of_block (heap_alloc_old (w.alloc (.map #[] 0)) _ (by simp))
  have hm2 : mapAt W ptV (w.heap.size + 1) 0 (fun _ => none) := by
    have := mapAt_made (w.alloc (.map #[] 0)) ptV
    rw [show (w.alloc (.map #[] 0)).heap.size = w.heap.size + 1 by simp, ← hW] at this
    exact this
  have hz : W.heap.size = w.heap.size + 2 := by rw [hW]; simp
  have HZ := Lib.hid hz
  clear hz
  go_enter Try.func30, Try.ntmps30
  go_wp2_with fail
  rw [← hW]
  go_ret
  have hX := heap_alloc_new W (.cells (IndexV.mk ⟨none, 0, 0⟩ (some w.heap.size) (some (w.heap.size + 1))).arr 146)
  have hz := HZ.out
  refine ⟨W.heap.size, ⟨w.heap.size, w.heap.size + 1, 0, 0, ⟨none, 0, 0⟩, [], fun _ => TxV.zero⟩, ?_, ⟨hX, hm1.of_block (heap_alloc_old W _ hm1.lt), hm2.of_block (heap_alloc_old W _ hm2.lt), World.ownsRow_nil _ _ _ _, rfl, rfl, fun k h => absurd h (by simp), fun z x h => (by cases h), ?_, by simp⟩, hbW.alloc hbW.size _⟩
  · simp [hz]
  · rintro k (rfl | rfl | rfl | hk)
    · exact hbW.size
    · exact Nat.le_refl _
    · exact Nat.le_succ _
    · simp [Sl.v, Value.ownBlock] at hk
theorem height_ix (Z : Nat → Prop) (p : Nat) (r : IdxR) (M : Maps) (B : List (List Hash)) (w : World) (h : IdxAt w Z p r M B) :
    Calls Try.prog 32 #[.pointer (some ⟨p, 0, none⟩)] w fun e w' => e = .returned (.int .i64 (B.length : Nat)) ∧ w = w' := by
  have c0 := h.cell0
  have hn := h.bn
  rw [hn] at c0
  clear h hn
  go_enter Try.func32, Try.ntmps32
  go_wp2_with fail
  go_ret
  exact ⟨rfl, rfl⟩
theorem none_ix (Z : Nat → Prop) (p : Nat) (r : IdxR) (M : Maps) (B : List (List Hash)) (w : World) (h : IdxAt w Z p r M B) :
    Calls Try.prog 83 #[.pointer (some ⟨p, 0, none⟩)] w fun e w' => e = .returned (.bool false) ∧ w = w' := by
  have c1 := h.cell1
  have hnil := run_eql_map_nil w (P := Try.prog) 142 _ _ (some r.mt) Try.underlying142
  clear h
  go_enter Try.func83, Try.ntmps83
  go_wp2_with fail
  go_ret
  exact ⟨rfl, rfl⟩
theorem none_nil (w : World) : Calls Try.prog 83 #[.pointer none] w fun e w' => e = .returned (.bool true) ∧ w = w' := by
  go_enter Try.func83, Try.ntmps83
  go_wp2_with fail
  go_ret
  exact ⟨rfl, rfl⟩
theorem height_nil (w : World) : Calls Try.prog 32 #[.pointer none] w fun e w' => e = .returned (.int .i64 0) ∧ w = w' := by
  go_enter Try.func32, Try.ntmps32
  go_wp2_with fail
  go_ret
  exact ⟨rfl, rfl⟩
end Go.Proofs.Ytaopiefbejajkaa
