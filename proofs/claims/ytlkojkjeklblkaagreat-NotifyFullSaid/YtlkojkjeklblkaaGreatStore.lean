/- A struct stored over one, at the operation; results of two, the first a struct. Whatever the program. -/
import Derived.Test.YtlkojkjeklblkaaGreatShaB2
import Derived.Laws.Rows
set_option linter.unusedSimpArgs false
set_option linter.unusedVariables false
namespace Go.Proofs.YtlkojkjeklblkaaGreat
open Go.RowKit
section
variable {P : Program}
theorem row_of_block {w : World} {b : Nat} {cs : Array Value} {t : TypeId} {fr : Nat × Nat} {n : Nat} (h : w.heap[b]? = some (.cells cs t fr)) (hn : cs.size = n) : row? w ⟨b, 0, none⟩ n = some cs := by
  unfold row?
  simp only [h]
  rw [if_pos (And.intro trivial (by omega))]
  congr 1
  rw [show 0 + n = cs.size by omega]
  exact Array.extract_size
theorem wpList_storeRow {w : World} {ops : Array Oper} {rest : List Oper} {o : Oper} {a : Act} {Q : Exit → Act → World → Prop} {t t' : TypeId} {n : Nat} (hi : (P.info? t).map (·.size) = some n) (x v : Operand) (hop : o.op = Op.store t x v) (hg : o.guard = none)
    (b : Nat) (cs old : Array Value) (hx : a.eval x = .pointer (some ⟨b, 0, none⟩)) (hv : a.eval v = .agg cs) (hn : cs.size = n) (h1 : ∀ v ∈ cs.toList, v.oneCell' = true) (hold : old.size = n) (h : w.heap[b]? = some (.cells old t' (0, 0)))
    (hK : ∀ w', w'.heap[b]? = some (.cells cs t' (0, 0)) → Upd w w' (fun k => k = b) → wpList P ops Q rest (a.put o.dst undef) w') : wpList P ops Q (o :: rest) a w := by
  refine wpList_plain hg fun K' hK' => ?_
  have hrow := row_of_block h hold
  have hrun : (Instr.storeAt t (.pointer (some ⟨b, 0, none⟩)) (.agg cs)).run P w = .ok () (putRow w ⟨b, 0, none⟩ cs) := run_storeAt_row hi w b 0 cs hn h1 (by rw [hrow]; rfl) (fun j _ => (cells_known h).2.1 _)
  unfold Oper.wp
  obtain ⟨dst, op, ty, pos, after, guard⟩ := o
  simp only at hop
  subst hop
  simp only [execOp, hx, hv, Sem.run_bind, hrun, Result.andThen_ok, Sem.run_pure]
  refine hK' _ _ (hK _ ?_ (setCells_upd b _ 0 w))
  have hh := heap_setCells cs.toList 0 w _ h
  have e := putRow_eq 0 [] old.toList [] cs.toList rfl (by simp; omega)
  simp only [List.nil_append, List.append_nil, Array.toArray_toList] at e
  rw [e] at hh
  exact hh
theorem wpList_storePart {w : World} {ops : Array Oper} {rest : List Oper} {o : Oper} {a : Act} {Q : Exit → Act → World → Prop} {t t' : TypeId} {n : Nat} (hi : (P.info? t).map (·.size) = some n) (x v : Operand) (hop : o.op = Op.store t x v) (hg : o.guard = none)
    (b off : Nat) (cs : Array Value) (A B C : List Value) (hx : a.eval x = .pointer (some ⟨b, off, none⟩)) (hv : a.eval v = .agg cs) (hn : cs.size = n) (h1 : ∀ v ∈ cs.toList, v.oneCell' = true) (hA : A.length = off) (hB : B.length = n) (h : w.heap[b]? = some (.cells (A ++ (B ++ C)).toArray t' (0, 0)))
    (hK : ∀ w', w'.heap[b]? = some (.cells (A ++ (cs.toList ++ C)).toArray t' (0, 0)) → Upd w w' (fun k => k = b) → wpList P ops Q rest (a.put o.dst undef) w') : wpList P ops Q (o :: rest) a w := by
  refine wpList_plain hg fun K' hK' => ?_
  have hrow : (row? w ⟨b, off, none⟩ n).isSome = true := by
    unfold row?
    simp only [h]
    rw [if_pos (And.intro trivial (by simp; omega))]
    rfl
  have hrun : (Instr.storeAt t (.pointer (some ⟨b, off, none⟩)) (.agg cs)).run P w = .ok () (putRow w ⟨b, off, none⟩ cs) := run_storeAt_row hi w b off cs hn h1 hrow (fun j _ => (cells_known h).2.1 _)
  unfold Oper.wp
  obtain ⟨dst, op, ty, pos, after, guard⟩ := o
  simp only at hop
  subst hop
  simp only [execOp, hx, hv, Sem.run_bind, hrun, Result.andThen_ok, Sem.run_pure]
  refine hK' _ _ (hK _ ?_ (setCells_upd b _ off w))
  have hh := heap_setCells cs.toList off w _ h
  have e := putRow_eq off A B C cs.toList hA (by simp; omega)
  rw [e] at hh
  exact hh
theorem results_cell_tmp {fn : Func} {p q : Tmp} {ty : TypeId} (h : fn.results = #[.cell p ty, .tmp q]) (tmps : Array Value) (w : World) (g : Nat) (t : TypeId) (cs : Array Value) (fr : Nat × Nat) (d : TypeDesc) (v : Value)
    (hp : tmps.getD p undef = .pointer (some ⟨g, 0, none⟩)) (hq : tmps.getD q undef = v) (hg : w.heap[g]? = some (.cells cs t fr))
    (hu : P.underlying ty = some d) (hd : (match d with | .struct _ | .array _ _ => true | _ => false) = true) (hi : (P.info? ty).map (·.size) = some cs.size) :
    (results fn tmps).run P w = .ok (.tuple #[.agg cs, v]) w := by
  have hp' : tmps[p]?.getD undef = .pointer (some ⟨g, 0, none⟩) := by simpa using hp
  have hq' : tmps[q]?.getD undef = v := by simpa using hq
  simp [results, h, hp', hq', asAddr, run_loadVar_row w g t ty cs fr d hg hu hd hi]
end
@[go_sem] theorem lt_n1 (n : Nat) : (n < n + 1) = True := by simp
@[go_sem] theorem lt_n2 (n : Nat) : (n < n + 1 + 1) = True := by simp; omega
@[go_sem] theorem lt_n3 (n : Nat) : (n < n + 1 + 1 + 1) = True := by simp; omega
@[go_sem] theorem lt_n4 (n : Nat) : (n < n + 1 + 1 + 1 + 1) = True := by simp; omega
@[go_sem] theorem lt_n5 (n : Nat) : (n < n + 1 + 1 + 1 + 1 + 1) = True := by simp; omega
@[go_sem] theorem lt_m2 (n : Nat) : (n + 1 < n + 1 + 1 + 1) = True := by simp
@[go_sem] theorem lt_m3 (n : Nat) : (n + 1 < n + 1 + 1 + 1 + 1) = True := by simp
end Go.Proofs.YtlkojkjeklblkaaGreat
