/- The words of a block and the sum's own, stored. -/
import Derived.Test.YtaopiefbejajkaaShaB
set_option linter.unusedSimpArgs false
set_option linter.unusedVariables false
namespace Go.Proofs.Ytaopiefbejajkaa
open Go.RowKit
theorem Upd.setCell_drew (X : World) (p o : Nat) (v : Value) : Upd X (X.setCell ⟨p, o, none⟩ v).drew (fun k => k = p) := let h := Upd.setCell X ⟨p, o, none⟩ v; ⟨h.os, h.tape, h.output, h.size, h.block⟩
theorem heap_setCells {t : TypeId} {b : Nat} : ∀ (vs : List Value) (o : Nat) (w : World) (c : Array Value), w.heap[b]? = some (.cells c t (0, 0)) →
    (w.setCells b o vs).heap[b]? = some (.cells ((vs.zipIdx 0).foldl (fun cs (v, j) => cs.setIfInBounds (o + j) v) c) t (0, 0))
  | [], o, w, c, h => h
  | v :: vs, o, w, c, h => by
    have ih := heap_setCells vs (o + 1) (w.setCell ⟨b, o, none⟩ v) _ (heap_set h o v)
    have hz : ∀ (l : List Value) (k : Nat) (c : Array Value), ((l.zipIdx (k + 1)).foldl (fun cs (v, j) => cs.setIfInBounds (o + j) v) c) = ((l.zipIdx k).foldl (fun cs (v, j) => cs.setIfInBounds (o + 1 + j) v) c) := by
      intro l
      induction l with
      | nil => intros; rfl
      | cons x l ih => intro k c; simp only [List.zipIdx_cons, List.foldl_cons]; rw [ih, show o + (k + 1) = o + 1 + k by omega]
    rw [World.setCells, ih]
    simp only [List.zipIdx_cons, List.foldl_cons, Nat.add_zero]
    rw [show (0 : Nat) + 1 = 0 + 1 from rfl, hz]
theorem setCells_upd (b : Nat) : ∀ (vs : List Value) (o : Nat) (w : World), Upd w (w.setCells b o vs) (fun k => k = b)
  | [], o, w => Upd.refl _ _
  | v :: vs, o, w => (Upd.setCell w ⟨b, o, none⟩ v).trans (setCells_upd b vs (o + 1) _) (fun _ _ h => h)
theorem sumAt_row {X : World} {p : Nat} {s : SumV} (h : sumAt X p s) : (row? X ⟨p, 8, none⟩ 64).isSome = true := by
  have h8 : s.h.l.length = 8 := rfl
  have h9 := h.2
  unfold row?
  simp only [h.1]
  rw [if_pos (And.intro trivial (by simp [SumV.arr, h8, h9]))]
  rfl
theorem sumAt_free {X : World} {p : Nat} {s : SumV} (h : sumAt X p s) : rowFree X ⟨p, 8, none⟩ 64 := fun j _ => (cells_known h.1).2.1 _
/-- The block of words zeroed. -/
theorem sumAt_zero {X : World} {p : Nat} {s : SumV} (h : sumAt X p s) : sumAt (putRow X ⟨p, 8, none⟩ W64.zero.arr) p { s with w := List.replicate 64 0 } := by
  refine ⟨?_, by simp⟩
  unfold putRow
  have hh := h.1
  have e := putRow_eq 8 (s.h.l.map w32) (s.w.map w32) [Value.int .i64 s.hv, Value.int .u64 s.all] W64.zero.arr.toList rfl (by simp [h.2])
  have e2 : s.arr = (s.h.l.map w32 ++ (s.w.map w32 ++ [Value.int .i64 s.hv, Value.int .u64 s.all])).toArray := rfl
  rw [e2] at hh
  have := heap_setCells W64.zero.arr.toList 8 X _ hh
  rw [e] at this
  exact this
theorem sumAt_end {X : World} {p : Nat} {s : SumV} (h : sumAt X p s) : sumAt ((putRow X ⟨p, 8, none⟩ W64.zero.arr).setCell ⟨p, 72, none⟩ (.int .i64 0)) p { s with w := List.replicate 64 0, hv := 0 } ∧ Upd X ((putRow X ⟨p, 8, none⟩ W64.zero.arr).setCell ⟨p, 72, none⟩ (.int .i64 0)) (fun k => k = p) := by
  refine ⟨⟨?_, by simp⟩, (setCells_upd p _ 8 X).trans (Upd.setCell _ ⟨p, 72, none⟩ _) (fun _ _ h => h)⟩
  rw [heap_set (sumAt_zero h).1]
  have h8 : (s.h.l.map w32).length = 8 := rfl
  simp [SumV.arr, List.setIfInBounds_toArray, List.set_append, h8]
theorem sumAt_c72 {X : World} {p : Nat} {s : SumV} (h : sumAt X p s) : (putRow X ⟨p, 8, none⟩ W64.zero.arr).cell? ⟨p, 72, none⟩ = some (.int .i64 s.hv) := (sumAt_zero h).hv
theorem sumAt_f72 {X : World} {p : Nat} {s : SumV} (h : sumAt X p s) : (putRow X ⟨p, 8, none⟩ W64.zero.arr).frozen? ⟨p, 72, none⟩ = false := (cells_known (sumAt_zero h).1).2.1 _
/-- The block of words zeroed, at the operation. -/
theorem wpList_zeroW {w : World} {ops : Array Oper} {rest : List Oper} {o : Oper} {a : Act} {Q : Exit → Act → World → Prop} (x v : Operand) (hop : o.op = Op.store 220 x v) (hg : o.guard = none)
    (p : Nat) (s : SumV) (hx : a.eval x = .pointer (some ⟨p, 8, none⟩)) (hv : a.eval v = .agg W64.zero.arr) (h : sumAt w p s)
    (hK : ∀ w', sumAt w' p { s with w := List.replicate 64 0 } → Upd w w' (fun k => k = p) → wpList Try.prog ops Q rest (a.put o.dst undef) w') : wpList Try.prog ops Q (o :: rest) a w := by
  refine wpList_plain hg fun K' hK' => ?_
  have hrun : (Instr.storeAt 220 (.pointer (some ⟨p, 8, none⟩)) (.agg W64.zero.arr)).run Try.prog w = .ok () (putRow w ⟨p, 8, none⟩ W64.zero.arr) := stores_W64 p 8 W64.zero w (sumAt_row h) (sumAt_free h)
  unfold Oper.wp
  obtain ⟨dst, op, ty, pos, after, guard⟩ := o
  simp only at hop
  subst hop
  rw [execOp_store_W64]
  unfold storeS
  rw [hx, hv]
  simp only [Sem.run_bind, hrun, Result.andThen_ok, Sem.run_pure]
  exact hK' _ _ (hK _ (sumAt_zero h) (setCells_upd p _ 8 w))
theorem sumAt_hv {X : World} {p : Nat} {s : SumV} (h : sumAt X p s) (n : Nat) : sumAt (X.setCell ⟨p, 72, none⟩ (.int .i64 (n : Nat))) p { s with hv := n } := by
  refine ⟨?_, h.2⟩
  rw [heap_set h.1]
  have h8 : (s.h.l.map w32).length = 8 := rfl
  have h9 := h.2
  simp [SumV.arr, List.setIfInBounds_toArray, List.set_append, h8, h9]
theorem sumAt_all {X : World} {p : Nat} {s : SumV} (h : sumAt X p s) (n : Nat) : sumAt (X.setCell ⟨p, 73, none⟩ (.int .u64 (n : Nat))) p { s with all := n } := by
  refine ⟨?_, h.2⟩
  rw [heap_set h.1]
  have h8 : (s.h.l.map w32).length = 8 := rfl
  have h9 := h.2
  simp [SumV.arr, List.setIfInBounds_toArray, List.set_append, h8, h9]
end Go.Proofs.Ytaopiefbejajkaa
