/- Contracts of package book: the book of preimages. -/
import Derived.Test.YtaopiefbejajkaaRefD
import Derived.Test.YtaopiefbejajkaaKeys
import Derived.Test.YtaopiefbejajkaaRw
set_option linter.unusedSimpArgs false
set_option linter.unusedVariables false
namespace Go.Proofs.Ytaopiefbejajkaa
open Go.RowKit
/-- p is a book that tells f, its map block mb, of n entries. -/
def bookAt (w : World) (p mb n : Nat) (f : Hash → Option ByteArray) : Prop :=
  w.heap[p]? = some (.cells ({ m := some mb } : BookV).arr 117 (0, 0)) ∧ mapAt w hashV mb n (fun z => (f z).map Value.string)
theorem new_book (w : World) : Calls Try.prog 14 #[] w fun e w' => ∃ p mb, e = .returned (.pointer (some ⟨p, 0, none⟩)) ∧ bookAt w' p mb 0 (fun _ => none) ∧ w.heap.size ≤ p ∧ w.heap.size ≤ mb ∧ Below w.heap.size w w' := by
  have hmm := @run_makeMap Try.prog
  go_enter Try.func14, Try.ntmps14
  go_wp2_with fail
  go_ret
  refine ⟨w.heap.size + 1, w.heap.size, rfl, ⟨by simpa using heap_alloc_new (w.alloc (.map #[] 0)) (.cells ({ m := some w.heap.size } : BookV).arr 117), ?_⟩, by omega, by omega, ((Below.refl _ _).alloc (Nat.le_refl _) _).alloc (by simp) _⟩
  exact (mapAt_made w hashV).of_block (heap_alloc_old (w.alloc (.map #[] 0)) _ (by simp))
theorem zero_string : (Try.prog.info? 9).map (·.zero) = some (some (.string ByteArray.empty)) := by kernel_rfl
theorem bookAt.below {w w' : World} {p mb n B : Nat} {f : Hash → Option ByteArray} (h : bookAt w p mb n f) (hb : Below B w w') (hp : p < B) (hm : mb < B) : bookAt w' p mb n f :=
  ⟨(hb.block p hp).trans h.1, h.2.of_block (hb.block mb hm)⟩
theorem mapAt.len {κ : Type} {P : Program} {w : World} {enc : κ → Value} {b n : Nat} {f : κ → Option Value} {t k e ty : TypeId} (ht : P.underlying t = some (.map k e)) (h : mapAt w enc b n f) : (Builtin.len_ #[t] ty #[.map (some b)]).run P w = .ok (.int .i64 (n : Int)) w := by
  obtain ⟨es, clock, hb, M, hn⟩ := h
  simp [Builtin.len_, run_underlying ht, MapKept.run_getObj_map hb, goInt, hn]
theorem bookAt.lt {w : World} {p mb n : Nat} {f : Hash → Option ByteArray} (h : bookAt w p mb n f) : p < w.heap.size ∧ mb < w.heap.size := ⟨(cells_known h.1).2.2, h.2.lt⟩
theorem bookAt.looks {w : World} {p mb n : Nat} {f : Hash → Option ByteArray} (h : bookAt w p mb n f) (z : Hash) : (Instr.lookup 115 (.map (some mb)) (.agg z.arr) true).run Try.prog w = .ok (.tuple #[.string ((f z).getD ByteArray.empty), .bool (f z).isSome]) w := by
  have := run_lookup hash_enc Try.underlying115 (zeroValue_run zero_string w) h.2 z true
  rw [show hashV z = .agg z.arr from rfl] at this
  rw [this]
  cases hf : f z <;> simp [look, hf]
theorem run_look_op {P : Program} {w : World} {a : Act} {o : Oper} {t : TypeId} {ok : Bool} (m x : Operand) (mv xv v : Value) (hop : o.op = Op.lookup t m x ok) (hm : a.eval m = mv) (hx : a.eval x = xv) (h : (Instr.lookup t mv xv ok).run P w = .ok v w) :
    (execOp a.eval o).run P w = .ok (.value v) w := by
  simp [execOp, hop, hm, hx, h, Result.andThen]
@[simp] theorem Hash.ext_all (x : Hash) : x.arr.extract 0 32 = x.arr := by rw [show 32 = x.arr.size by simp]; exact Array.extract_size
attribute [local go_sem] row?_drewN Hash.ext_all
set_option maxRecDepth 100000 in
set_option maxHeartbeats 1000000 in
theorem find_book (p mb n : Nat) (f : Hash → Option ByteArray) (z : Hash) (w : World) (h : bookAt w p mb n f) :
    Calls Try.prog 106 #[.pointer (some ⟨p, 0, none⟩), .agg z.arr] w fun e w' => e = .returned (.tuple #[.string ((f z).getD ByteArray.empty), .bool (f z).isSome]) ∧ Below w.heap.size w w' := by
  have hp := h.lt.1
  have hbV : Below w.heap.size w (w.alloc (.cells z.arr 30)) := (Below.refl _ _).alloc (Nat.le_refl _) _
  have hV := h.below hbV h.lt.1 h.lt.2
  have hlook : ∀ m, (Instr.lookup 115 (.map (some mb)) (.agg z.arr) true).run Try.prog ((w.alloc (.cells z.arr 30)).drewN m) = .ok (.tuple #[.string ((f z).getD ByteArray.empty), .bool (f z).isSome]) ((w.alloc (.cells z.arr 30)).drewN m) := fun m => bookAt.looks (w := (w.alloc (.cells z.arr 30)).drewN m) hV z
  have c0 : w.cell? ⟨p, 0, none⟩ = some (.map (some mb)) := by rw [(cells_known h.1).1]; simp
  go_enter Try.func106, Try.ntmps106
  go_wp2_with fail
  go_quiet (fail)
  go_wp2_with fail
  go_ret2
  exact ⟨rfl, below_drewN hbV _⟩
set_option maxRecDepth 100000 in
set_option maxHeartbeats 1000000 in
theorem has_book (p mb n : Nat) (f : Hash → Option ByteArray) (z : Hash) (w : World) (h : bookAt w p mb n f) :
    Calls Try.prog 60 #[.pointer (some ⟨p, 0, none⟩), .agg z.arr] w fun e w' => e = .returned (.bool (f z).isSome) ∧ Below w.heap.size w w' := by
  have hbV : Below w.heap.size w (w.alloc (.cells z.arr 30)) := (Below.refl _ _).alloc (Nat.le_refl _) _
  have hV := h.below hbV h.lt.1 h.lt.2
  go_enter Try.func60, Try.ntmps60
  go_wp2_with (go_at_call 106; refine (find_book p mb n f z _ hV).mono ?_; rintro e w1 ⟨rfl, hb1⟩)
  go_ret
  exact ⟨rfl, hbV.trans (hb1.mono hbV.size)⟩
set_option maxRecDepth 100000 in
set_option maxHeartbeats 1000000 in
theorem image_script (s : ByteArray) (hs : s.size < 1000000000000000) (w : World) :
    Calls Try.prog 59 #[.string s] w fun e w' => e = .returned (.agg (shaS s.data.toList).arr) ∧ Below w.heap.size w w' := by
  have hsl : s.data.toList.length < 1000000000000000 := by rw [Array.length_toList]; exact hs
  go_enter Try.func59, Try.ntmps59
  obtain ⟨W, c, hrun, hbW, hWs, hsc, hcb⟩ := run_bytes (w.alloc (.cells Hash.zero.arr 30)) s
  have hsz : (w.alloc (.cells Hash.zero.arr 30)).heap.size = w.heap.size + 1 := by simp
  rw [hsz] at hrun hcb hWs
  have hbV : Below w.heap.size w W := ((Below.refl w.heap.size w).alloc (Nat.le_refl _) _).trans (hbW.mono (by simp))
  have hHW : W.heap[w.heap.size]? = some (.cells Hash.zero.arr 30 (0, 0)) := (hbW.block _ (by simp)).trans (heap_alloc_new w _)
  have hwl : w.heap.size < W.heap.size := (Array.getElem?_eq_some_iff.1 hHW).1
  have HHW := Lib.hid hHW
  clear hHW hbW hWs hsz
  go_wp2_with fail
  have hbX : Below W.heap.size W (W.alloc (.cells #[.slice (some ⟨w.heap.size + 1, 0, none⟩) s.size c] 96)) := (Below.refl _ _).alloc (Nat.le_refl _) _
  refine (sum_one W.heap.size 1 ⟨some ⟨w.heap.size + 1, 0, none⟩, s.size, c⟩ s.data.toList 96 _ (heap_alloc_new W _) ((hcb.below hbX).mono hbX.size) hsl).mono ?_
  rintro e Y ⟨rfl, hbY⟩
  have hbWY : Below W.heap.size W Y := hbX.trans (hbY.mono hbX.size)
  have hHY : Y.heap[w.heap.size]? = some (.cells Hash.zero.arr 30 (0, 0)) := (hbWY.block _ hwl).trans HHW.out
  have HHY := Lib.hid hHY
  have hbw : Below w.heap.size w Y := hbV.trans (hbWY.mono (by omega))
  clear hHY hbY hcb hrun hbX
  go_wp2_with (refine wpList_storeHash (.tmp 2) (.tmp 6) rfl rfl w.heap.size (shaS s.data.toList) Hash.zero rfl rfl HHY.out ?_; intro wz hhz huz)
  refine bodyPost_ret (results_cell_row rfl _ _ w.heap.size 30 (shaS s.data.toList).arr (0, 0) _ rfl hhz Try.underlying30 rfl (by rw [size_Hash]; simp)) rfl ⟨rfl, ?_⟩
  exact hbw.trans (huz.below hbw.size (fun i e => by have e2 : i = w.heap.size := e; omega))
set_option maxRecDepth 100000 in
set_option maxHeartbeats 1000000 in
/-- A preimage that is not known yet is taken in. -/
theorem learn_book (p mb n : Nat) (f : Hash → Option ByteArray) (s : ByteArray) (w : World) (h : bookAt w p mb n f) (hs : s.size ≤ 64) (hn : n < 1000) (hf : f (shaS s.data.toList) = none) :
    Calls Try.prog 15 #[.pointer (some ⟨p, 0, none⟩), .string s] w fun e w' => e = .returned (.int .i64 0) ∧ bookAt w' p mb (n + 1) (fun z => if z = shaS s.data.toList then some s else f z) ∧ Upd w w' (fun k => k = mb) := by
  have hs64 : decide ((64 : Int) < (s.size : Int)) = false := decide_eq_false (by omega)
  have hlen : s.size < 1000000000000000 := by omega
  go_enter Try.func15, Try.ntmps15
  go_wp2_with fail
  refine wp_scope_fwd 0 (by rfl) ?_
  go_wp2_with fail
  refine (image_script s hlen w).mono ?_
  rintro e W ⟨rfl, hbW⟩
  have hW := h.below hbW h.lt.1 h.lt.2
  obtain ⟨z, hz⟩ : ∃ z, z = shaS s.data.toList := ⟨_, rfl⟩
  rw [← hz] at hf ⊢
  have HZ := Lib.hid hz
  have hF := Lib.hid hf
  clear hz hf h
  have hnf : Hid ((f z).isSome = false) := by unfold Hid; rw [hF.out]; rfl
  go_wp2_with fail
  have hbX : Below W.heap.size W (W.alloc (.cells z.arr 30)) := (Below.refl _ _).alloc (Nat.le_refl _) _
  have hX := hW.below hbX hW.lt.1 hW.lt.2
  refine (has_book p mb n f z _ hX).mono ?_
  rintro e Y ⟨rfl, hbY⟩
  have hY := hX.below hbY hX.lt.1 hX.lt.2
  have hrY : row? Y ⟨W.heap.size, 0, none⟩ 32 = some z.arr := (row?_of_block (hbY.block _ (by simp)) 32).trans (by rw [row?_alloc_at _ _ _ _ _ _ _ rfl]; simp)
  have hbw : Below w.heap.size w Y := hbW.trans ((hbX.trans (hbY.mono hbX.size)).mono hbW.size)
  rw [hnf.out]
  have c0 : Y.cell? ⟨p, 0, none⟩ = some (.map (some mb)) := by rw [(cells_known hY.1).1]; simp
  have hnil := run_eql_map_nil Y (P := Try.prog) 115 _ _ (some mb) Try.underlying115
  have hlm := hY.2.len (P := Try.prog) (ty := 3) Try.underlying115
  have hn2 : decide ((1000 : Int) ≤ (n : Int)) = false := decide_eq_false (by omega)
  clear hbW hW hbX hX hbY
  go_wp2_with fail
  refine wp_region_quiet_tail 6 (by kernel_rfl) (by kernel_rfl) ?_
  simp only [List.take_succ_cons, List.take_zero, List.drop_succ_cons, List.drop_zero]
  repeat (go_big_quiet_step (fail))
  refine wpQuiet_nil ?_
  intro nq
  obtain ⟨Z, hZ⟩ : ∃ Z, Z = Y.drewN nq := ⟨_, rfl⟩
  rw [← hZ]
  have hbZ : Below w.heap.size w Z := hZ ▸ below_drewN hbw nq
  have hYZ : bookAt Z p mb n f := hZ ▸ hY
  clear hZ hrY c0 hnil hlm hbw hY
  go_wp2_with (refine wpList_mapStore hash_enc rfl (.tmp 34) (.tmp 35) (.tmp 36) rfl Try.underlying115 rfl hYZ.2 z rfl (.string s) rfl ?_; intro w4 hm4 hg4)
  go_step3
  go_wp2_with fail
  rw [jump_ret]
  go_ret
  rw [hF.out] at hm4
  have hg : Upd Z w4 (fun k => k = mb) := (Upd.grown hg4).mono (fun k _ e => (Option.some.inj e).symm)
  refine ⟨rfl, ⟨(hg.block p hYZ.lt.1 ?_).trans hYZ.1, ?_⟩, ?_⟩
  · intro e
    subst e
    obtain ⟨es, clock, hb, _⟩ := hYZ.2
    rw [hYZ.1] at hb
    cases hb
  · have e : upd (fun z => Option.map Value.string (f z)) z (some (Value.string s)) = fun y => Option.map Value.string (if y = z then some s else f y) := by
      funext y
      unfold upd
      by_cases hy : y = z <;> simp [hy]
    rw [e] at hm4
    rw [← HZ.out]
    simpa using hm4
  · exact ⟨hg.os.trans hbZ.os, hg.tape.trans hbZ.tape, hg.output.trans hbZ.output, Nat.le_trans hbZ.size hg.size, fun k hk hs => (hg.block k (Nat.lt_of_lt_of_le hk hbZ.size) hs).trans (hbZ.block k hk)⟩
end Go.Proofs.Ytaopiefbejajkaa
