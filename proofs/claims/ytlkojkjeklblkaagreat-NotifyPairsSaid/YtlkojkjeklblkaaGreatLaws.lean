/- Laws of the model's operations on whole structs: zero values, building, allocating, loading, storing, comparing. Whatever the program. -/
import Derived.Test.YtlkojkjeklblkaaGreatData
set_option linter.unusedSimpArgs false
set_option linter.unusedVariables false
namespace Go.Proofs.YtlkojkjeklblkaaGreat
open Go.RowKit
section
variable {P : Program}
theorem zeroValue_run {t : TypeId} {v : Value} (hi : (P.info? t).map (·.zero) = some (some v)) (w : World) : (zeroValue t).run P w = .ok v w := by
  cases hq : P.info? t with
  | none => simp [hq] at hi
  | some i =>
    have : i.zero = some v := by simpa [hq] using hi
    simp [zeroValue, typeInfo, hq, this]
theorem places_run (w : World) : ∀ (fs : List Field) (ps : List (Nat × Nat)), fs.map (fun f => (P.info? f.type).map fun i => (f.offset, i.size)) = ps.map some →
    (fs.mapM fun f => (do pure (f.offset, ← sizeOf f.type) : Sem (Nat × Nat))).run P w = .ok ps w
  | [], ps, h => by cases ps <;> simp_all [Sem.run_pure]
  | f :: fs, [], h => by simp at h
  | f :: fs, p :: ps, h => by
    simp only [List.map_cons, List.cons.injEq] at h
    obtain ⟨h1, h2⟩ := h
    have ih := places_run w fs ps h2
    cases hq : P.info? f.type with
    | none => simp [hq] at h1
    | some i =>
      have e : (f.offset, i.size) = p := by simpa [hq] using h1
      have hs := sizeOf_run (P := P) (t := f.type) (n := i.size) (by simp [hq]) w
      simp only [List.mapM_cons, Sem.run_bind, hs, Result.andThen_ok, Sem.run_pure, ih, e]
/-- What a composite of a struct's fields comes to. -/
def built (ps : List (Nat × Nat)) (z : Array Value) (parts : List (Nat × Value)) (w : World) : Result Value :=
  match Instr.fill (fun i => ps[i]?) z parts with
  | some c => .ok (.agg c) w
  | none => .halt (.stuck "build: no such field, or a part of the wrong size") w
theorem run_build {t : TypeId} {fs : List Field} {z : Array Value} {ps : List (Nat × Nat)} (hu : P.underlying t = some (.struct fs.toArray)) (hz : (P.info? t).map (·.zero) = some (some (.agg z)))
    (hp : fs.map (fun f => (P.info? f.type).map fun i => (f.offset, i.size)) = ps.map some) (parts : Array (Nat × Value)) (w : World) :
    (Instr.build t parts).run P w = built ps z parts.toList w := by
  have hpl := places_run (P := P) w fs ps hp
  unfold Instr.build built
  simp only [Sem.run_bind, zeroValue_run hz, Result.andThen_ok, run_underlying hu, List.mapM_toArray, map_eq_pure_bind, hpl, Sem.run_pure, List.getElem?_toArray, Value.cells]
  cases Instr.fill (fun i => ps[i]?) z parts.toList <;> simp [Sem.run_pure, stuck, Sem.run]
theorem built_nil (ps : List (Nat × Nat)) (z : Array Value) (w : World) : built ps z [] w = .ok (.agg z) w := rfl
theorem foldl_put (off : Nat) (C : List Value) : ∀ (bs : List Value) (k : Nat) (A B : List Value), A.length = off + k → B.length = bs.length →
    (bs.zipIdx k).foldl (fun cs (c, j) => cs.setIfInBounds (off + j) c) (A ++ (B ++ C)).toArray = (A ++ (bs ++ C)).toArray
  | [], k, A, B, hA, hB => by cases B <;> simp_all
  | c :: bs, k, A, [], hA, hB => by simp at hB
  | c :: bs, k, A, b0 :: B, hA, hB => by
    have e : (A ++ (b0 :: B ++ C)).toArray.setIfInBounds (off + k) c = ((A ++ [c]) ++ (B ++ C)).toArray := by
      rw [← hA]; simp [List.set_append]
    have ih := foldl_put off C bs (k + 1) (A ++ [c]) B (by simp; omega) (by simpa using hB)
    simp only [List.zipIdx_cons, List.foldl_cons, e, ih]
    simp
/-- One part laid into its field. -/
theorem built_step (ps : List (Nat × Nat)) (i off n : Nat) (A B C b : List Value) (z r : Array Value) (v : Value) (rest : List (Nat × Value)) (w : World) (hpl : ps[i]? = some (off, n)) (hb : v.cells.toList = b)
    (hn : b.length = n) (hA : A.length = off) (hB : B.length = n) (hz : z = (A ++ (B ++ C)).toArray) (hr : r = (A ++ (b ++ C)).toArray) :
    built ps z ((i, v) :: rest) w = built ps r rest w := by
  subst hb hz hr
  have hs : v.cells.size = n := by simpa using hn
  unfold built
  rw [Instr.fill]
  simp only [hpl]
  rw [if_neg (by simp [hs]; omega)]
  have hf := foldl_put off C v.cells.toList 0 A B (by omega) (by rw [hB, hn])
  rw [← Array.foldl_toList, Array.toList_zipIdx, hf]
/-- A value's cells set into a row of cells, from a place on. -/
theorem putRow_eq (off : Nat) (A B C b : List Value) (hA : A.length = off) (hB : B.length = b.length) :
    (b.zipIdx 0).foldl (fun cs (c, j) => cs.setIfInBounds (off + j) c) (A ++ (B ++ C)).toArray = (A ++ (b ++ C)).toArray := foldl_put off C b 0 A B (by omega) hB

/-! ### storing whole rows -/
/-- The world behind a store of cells from an address on. -/
def putRow (w : World) (a : Addr) (cs : Array Value) : World := w.setCells a.block a.off cs.toList
def rowFree (w : World) (a : Addr) (n : Nat) : Prop := ∀ j, j < n → w.frozen? ⟨a.block, a.off + j, none⟩ = false
theorem run_storeAt_row {t : TypeId} {n : Nat} (hi : (P.info? t).map (·.size) = some n) (w : World) (b off : Nat) (cs : Array Value) (hn : cs.size = n) (h1 : ∀ v ∈ cs.toList, v.oneCell' = true)
    (h : (row? w ⟨b, off, none⟩ n).isSome = true) (hf : rowFree w ⟨b, off, none⟩ n) :
    (Instr.storeAt t (.pointer (some ⟨b, off, none⟩)) (.agg cs)).run P w = .ok () (putRow w ⟨b, off, none⟩ cs) := by
  obtain ⟨old, hold⟩ := Option.isSome_iff_exists.1 h
  have hst := run_storeCells_cells (P := P) b off cs.toList 0 w (fun j hj => by
      have hj' : j < n := by simpa [hn] using hj
      rw [Nat.add_zero, row?_cellAt hold j hj', Array.getElem?_eq_getElem (by rw [(row?_cell hold).1]; exact hj')]
      rfl) (fun j hj => by rw [Nat.add_zero]; exact hf j (by simpa [hn] using hj)) h1
  have hv : (Value.agg cs).cells = cs := rfl
  simp only [Instr.storeAt, Instr.sureAddr, storeVar, Sem.run_bind, Sem.run_pure, Result.andThen_ok, sizeOf_run hi, hv, hn, ne_eq, not_true_eq_false, if_false]
  rw [hst]
  rfl
theorem setCells_alloc (w : World) (t : TypeId) (fr : Nat × Nat) : ∀ (vs : List Value) (o : Nat) (c : Array Value),
    (w.alloc (.cells c t fr)).setCells w.heap.size o vs = w.alloc (.cells ((vs.zipIdx 0).foldl (fun cs (v, j) => cs.setIfInBounds (o + j) v) c) t fr)
  | [], o, c => rfl
  | v :: vs, o, c => by
    have e : (w.alloc (.cells c t fr)).setCell ⟨w.heap.size, o, none⟩ v = w.alloc (.cells (c.setIfInBounds o v) t fr) := by
      simp only [World.alloc, World.setCell]
      congr 1
      apply Array.ext_getElem?
      intro i
      rw [Array.getElem?_modify, Array.getElem?_push, Array.getElem?_push]
      by_cases hi : i = w.heap.size
      · subst hi; simp
      · rw [if_neg (fun e => hi e.symm), if_neg hi, if_neg hi]
    have hz : ∀ (l : List Value) (k : Nat) (c : Array Value), ((l.zipIdx (k + 1)).foldl (fun cs (v, j) => cs.setIfInBounds (o + j) v) c) = ((l.zipIdx k).foldl (fun cs (v, j) => cs.setIfInBounds (o + 1 + j) v) c) := by
      intro l
      induction l with
      | nil => intros; rfl
      | cons x l ih => intro k c; simp only [List.zipIdx_cons, List.foldl_cons]; rw [ih, show o + (k + 1) = o + 1 + k by omega]
    rw [World.setCells, e, setCells_alloc w t fr vs (o + 1)]
    simp only [List.zipIdx_cons, List.foldl_cons, Nat.add_zero]
    rw [show (0 : Nat) + 1 = 0 + 1 from rfl, hz]
theorem putRow_alloc (w : World) (m off : Nat) (hm : m = w.heap.size) (c : Array Value) (t : TypeId) (fr : Nat × Nat) (A B C : List Value) (b r : Array Value) (hc : c = (A ++ (B ++ C)).toArray) (hA : A.length = off) (hB : B.length = b.size)
    (hr : r = (A ++ (b.toList ++ C)).toArray) : putRow (w.alloc (.cells c t fr)) ⟨m, off, none⟩ b = w.alloc (.cells r t fr) := by
  subst hm hc hr
  unfold putRow
  rw [setCells_alloc, putRow_eq off A B C b.toList hA (by simpa using hB)]
theorem putRow_alloc_past (w : World) (o : Obj) (a : Addr) (b : Array Value) (h : a.block < w.heap.size) : putRow (w.alloc o) a b = (putRow w a b).alloc o := by
  have hs : ∀ (vs : List Value) (p : Nat) (w : World), a.block < w.heap.size → (w.alloc o).setCells a.block p vs = (w.setCells a.block p vs).alloc o := by
    intro vs
    induction vs with
    | nil => intros; rfl
    | cons v vs ih =>
      intro p w hw
      rw [World.setCells, World.setCells, ← ih (p + 1) (w.setCell ⟨a.block, p, none⟩ v) (by simpa using hw)]
      congr 1
      simp only [World.alloc, World.setCell]
      congr 1
      apply Array.ext_getElem?
      intro i
      simp only [Array.getElem?_modify, Array.getElem?_push]
      by_cases hi : i = w.heap.size
      · subst hi; simp [Array.size_modify]; omega
      · simp [Array.size_modify, hi]
  exact hs _ _ _ h
theorem putRow_drew (w : World) (a : Addr) (b : Array Value) : putRow w.drew a b = (putRow w a b).drew := by
  have hs : ∀ (vs : List Value) (p : Nat) (w : World), w.drew.setCells a.block p vs = (w.setCells a.block p vs).drew := by
    intro vs
    induction vs with
    | nil => intros; rfl
    | cons v vs ih => intro p w; rw [World.setCells, World.setCells, ← ih]; rfl
  exact hs _ _ _
theorem rowFree_alloc (w : World) (c : Array Value) (t : TypeId) (m off n : Nat) (hm : m = w.heap.size) : rowFree (w.alloc (.cells c t)) ⟨m, off, none⟩ n := by
  subst hm; intro j _; simp
theorem rowFree_alloc_past (w : World) (o : Obj) (a : Addr) (n : Nat) (h : a.block < w.heap.size) : rowFree (w.alloc o) a n = rowFree w a n := by
  unfold rowFree
  have : ∀ j, (w.alloc o).frozen? ⟨a.block, a.off + j, none⟩ = w.frozen? ⟨a.block, a.off + j, none⟩ := fun j => World.frozen?_alloc_past _ _ _ h
  simp only [this]
theorem rowFree_drew (w : World) (a : Addr) (n : Nat) : rowFree w.drew a n = rowFree w a n := rfl
theorem run_alloc {t : TypeId} {z : Value} (hz : (P.info? t).map (·.zero) = some (some z)) (v : Value) (w : World) :
    (Instr.alloc t true v).run P w = .ok (.pointer (some ⟨w.heap.size, 0, none⟩)) (w.alloc (.cells z.cells t)) := by
  unfold Instr.alloc
  simp only [Sem.run_bind, zeroValue_run hz, Result.andThen_ok, newVar, newRow, run_newObj_alloc, Sem.run_pure]
/-- A whole struct's operations, each under a name that the walk does not open. -/
def loadS (t : TypeId) (x : Value) : Sem Value := Instr.loadAt t x
def storeS (t : TypeId) (x v : Value) : Sem Unit := Instr.storeAt t x v
def allocS (t : TypeId) : Sem Value := Instr.alloc t true (.tuple #[])
def buildS (t : TypeId) (parts : Array (Nat × Value)) : Sem Value := Instr.build t parts
theorem aggLoad_row {t : TypeId} {d : TypeDesc} {n : Nat} (hu : P.underlying t = some d) (hd : aggD d = true)
    (hi : (P.info? t).map (·.size) = some n) (a : Addr) (w : World) (h : (row? w a n).isSome = true) : (loadS t (.pointer (some a))).run P w = .ok (.agg ((row? w a n).getD #[])) w := by
  obtain ⟨cs, hcs⟩ := Option.isSome_iff_exists.1 h
  rw [hcs]
  exact run_loadAt_row hu hd hi w a cs hcs
theorem aggStore_row {t : TypeId} {n : Nat} (hi : (P.info? t).map (·.size) = some n) (b off : Nat) (cs : Array Value) (hn : cs.size = n) (h1 : ∀ v ∈ cs.toList, v.oneCell' = true) (w : World)
    (h : (row? w ⟨b, off, none⟩ n).isSome = true) (hf : rowFree w ⟨b, off, none⟩ n) : (storeS t (.pointer (some ⟨b, off, none⟩)) (.agg cs)).run P w = .ok () (putRow w ⟨b, off, none⟩ cs) :=
  run_storeAt_row hi w b off cs hn h1 h hf
/-! ### equality, field by field -/
theorem eqF_nil (d : Nat) (xs ys : Array Value) (w : World) : (Op.eqFields d xs ys []).run P w = .ok true w := rfl
theorem eqF_cons {d : Nat} {xs ys : Array Value} {f : Field} {fs : List Field} {w : World} {a b : Value} {r s : Bool} (hn : f.name ≠ "_") (ha : (part f.type xs f.offset).run P w = .ok a w) (hb : (part f.type ys f.offset).run P w = .ok b w)
    (he : (Op.equalIn d f.type a b).run P w = .ok r w) (hs : (Op.eqFields d xs ys fs).run P w = .ok s w) : (Op.eqFields d xs ys (f :: fs)).run P w = .ok (r && s) w := by
  simp only [Op.eqFields, hn, ne_eq, not_false_eq_true, if_true, Sem.run_bind, ha, hb, he, Result.andThen_ok]
  cases r
  · simp [Sem.run_pure]
  · simpa using hs
theorem run_part_one {t : TypeId} {d : TypeDesc} (hu : P.underlying t = some d) (hd : aggD d = false) {xs : Array Value} {off : Nat} {v : Value} (h : xs[off]? = some v) (w : World) :
    (part t xs off).run P w = .ok v w := by
  have ha : (isAgg t).run P w = .ok false w := by
    unfold isAgg
    rw [Sem.run_bind, run_underlying hu w]
    cases d <;> simp_all [aggD]
  simp [part, Sem.run_bind, ha, h]
theorem run_part_agg {t : TypeId} {d : TypeDesc} {n : Nat} (hu : P.underlying t = some d) (hd : aggD d = true) (hi : (P.info? t).map (·.size) = some n) {xs b : Array Value} {off : Nat} (h : xs.extract off (off + n) = b) (w : World) :
    (part t xs off).run P w = .ok (.agg b) w := by
  simp [part, Sem.run_bind, isAgg_true hu hd, sizeOf_run hi, h]
theorem eqF_int {d : Nat} {xs ys : Array Value} {f : Field} {fs : List Field} {w : World} {k : IntKind} {a b : Int} {s : Bool} (hn : f.name ≠ "_") (hu : P.underlying f.type = some (.int k)) (ha : xs[f.offset]? = some (.int k a)) (hb : ys[f.offset]? = some (.int k b))
    (hs : (Op.eqFields (d + 1) xs ys fs).run P w = .ok s w) : (Op.eqFields (d + 1) xs ys (f :: fs)).run P w = .ok (decide (a = b) && s) w :=
  eqF_cons hn (run_part_one hu rfl ha w) (run_part_one hu rfl hb w) (by rw [run_equalIn_int w d _ k k a b hu]; congr 1) hs
theorem eqF_bool {d : Nat} {xs ys : Array Value} {f : Field} {fs : List Field} {w : World} {a b : Bool} {s : Bool} (hn : f.name ≠ "_") (hu : P.underlying f.type = some .bool) (ha : xs[f.offset]? = some (.bool a)) (hb : ys[f.offset]? = some (.bool b))
    (hs : (Op.eqFields (d + 1) xs ys fs).run P w = .ok s w) : (Op.eqFields (d + 1) xs ys (f :: fs)).run P w = .ok (decide (a = b) && s) w :=
  eqF_cons hn (run_part_one hu rfl ha w) (run_part_one hu rfl hb w) (by rw [run_equalIn_bool' w d _ a b hu]; congr 1) hs
theorem beq_bytes (a b : ByteArray) : (a.toList == b.toList) = decide (a = b) := by
  rw [Bool.eq_iff_iff, beq_iff_eq, decide_eq_true_iff, ByteArray.toList_eq, ByteArray.toList_eq]
  constructor
  · intro h
    obtain ⟨⟨x⟩⟩ := a
    obtain ⟨⟨y⟩⟩ := b
    simp_all
  · intro h; rw [h]
theorem eqF_str {d : Nat} {xs ys : Array Value} {f : Field} {fs : List Field} {w : World} {a b : ByteArray} {s : Bool} (hn : f.name ≠ "_") (hu : P.underlying f.type = some .string) (ha : xs[f.offset]? = some (.string a)) (hb : ys[f.offset]? = some (.string b))
    (hs : (Op.eqFields (d + 1) xs ys fs).run P w = .ok s w) : (Op.eqFields (d + 1) xs ys (f :: fs)).run P w = .ok (decide (a = b) && s) w :=
  eqF_cons hn (run_part_one hu rfl ha w) (run_part_one hu rfl hb w) (by rw [run_equalIn_string w d _ a b hu, beq_bytes]) hs
theorem eqF_agg {d : Nat} {xs ys xb yb : Array Value} {f : Field} {fs : List Field} {w : World} {td : TypeDesc} {n : Nat} {r s : Bool} (hn : f.name ≠ "_") (hu : P.underlying f.type = some td) (hd : aggD td = true) (hi : (P.info? f.type).map (·.size) = some n)
    (ha : xs.extract f.offset (f.offset + n) = xb) (hb : ys.extract f.offset (f.offset + n) = yb) (he : (Op.equalIn d f.type (.agg xb) (.agg yb)).run P w = .ok r w)
    (hs : (Op.eqFields d xs ys fs).run P w = .ok s w) : (Op.eqFields d xs ys (f :: fs)).run P w = .ok (r && s) w :=
  eqF_cons hn (run_part_agg hu hd hi ha w) (run_part_agg hu hd hi hb w) he hs
theorem eq_struct {t : TypeId} {fs : List Field} {d : Nat} {xs ys : Array Value} {w : World} {r : Bool} (hu : P.underlying t = some (.struct fs.toArray)) (hh : P.stoodInHeld t = false)
    (h : (Op.eqFields d xs ys fs).run P w = .ok r w) : (Op.equalIn (d + 1) t (.agg xs) (.agg ys)).run P w = .ok r w := by
  have hf : P.fieldsOf t = fs.toArray := by simp only [Program.fieldsOf, hu]
  rw [run_equalIn_struct w d t xs ys (by rw [hf]; exact hu) hh, hf]
  exact h
end
@[go_sem] theorem row?_alloc_new' (w : World) (c : Array Value) (t : TypeId) (fr : Nat × Nat) (off n : Nat) (h : off + n ≤ c.size) :
    row? (w.alloc (.cells c t fr)) ⟨w.heap.size, off, none⟩ n = some (c.extract off (off + n)) := by rw [row?_alloc_at _ _ _ _ _ _ _ rfl, if_pos h]
attribute [go_sem] row?_alloc_at row?_alloc_past row?_drew putRow_alloc_past putRow_drew rowFree_alloc rowFree_alloc_past rowFree_drew
end Go.Proofs.YtlkojkjeklblkaaGreat
